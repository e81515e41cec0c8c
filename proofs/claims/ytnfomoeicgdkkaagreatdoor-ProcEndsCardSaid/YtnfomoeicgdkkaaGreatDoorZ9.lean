/- An operation is done. -/
import Derived.Test.YtnfomoeicgdkkaaGreatDoorZ8
import Derived.Test.YtnfomoeicgdkkaaGreatDoorZ2
import Derived.Test.YtnfomoeicgdkkaaGreatDoorProg
import Derived.KernelRfl
import Derived.Test.YtnfomoeicgdkkaaGreatDoorZ5
set_option linter.unusedSimpArgs false
set_option linter.unusedVariables false
set_option maxRecDepth 1000000
namespace Go.Proofs.YtnfomoeicgdkkaaGreatDoor

structure OpS where
  kind : Int
  path : Bytes
  dest : Bytes
  data : Bytes

def mkAt (T : TreeS) (d : Int) (s : Bytes) (n : NodeS) : TreeS := match aget T.nodes d with
  | none => T
  | some nd => mkT T d nd s n
def rmAt (T : TreeS) (d : Int) (s : Bytes) (i : Int) : TreeS := { updN T d (noKid s) with nodes := adel (updN T d (noKid s)).nodes i }
def noKids (T : TreeS) (i : Int) : Bool := ((aget T.nodes i).map fun n => decide (n.kids = [])).getD true

/-- an operation, the error's number ahead -/
def stepT (T : TreeS) (o : OpS) : Int × TreeS :=
  if o.kind < 0 ∨ 6 < o.kind then (1, T) else if (T.place o.path).2.2 ≠ 0 then ((T.place o.path).2.2, T) else if 3500 < o.data.length then (6, T) else
    if o.kind = 0 ∨ o.kind = 2 then
      if kidAt T (T.place o.path).1 (T.place o.path).2.1 ≠ 0 then (9, T) else (0, mkAt T (T.place o.path).1 (T.place o.path).2.1 (if o.kind = 0 then ⟨true, 1, [], []⟩ else ⟨false, 1, o.data, []⟩))
    else if kidAt T (T.place o.path).1 (T.place o.path).2.1 = 0 then (8, T) else
      if o.kind = 1 then
        if dirAt T (kidAt T (T.place o.path).1 (T.place o.path).2.1) = false then (11, T) else if noKids T (kidAt T (T.place o.path).1 (T.place o.path).2.1) = false then (12, T)
        else (0, rmAt T (T.place o.path).1 (T.place o.path).2.1 (kidAt T (T.place o.path).1 (T.place o.path).2.1))
      else if dirAt T (kidAt T (T.place o.path).1 (T.place o.path).2.1) = true then (10, T) else fileT T o.kind o.dest o.data (T.place o.path).1 (T.place o.path).2.1 (kidAt T (T.place o.path).1 (T.place o.path).2.1)

namespace Eng
attribute [local irreducible] Ops Segs Run Spec

/-- a node with data that is new comes into a directory: the pool grows -/
theorem tree_make_data (D : List HA) (t : Nat) (T : TreeS) (adr : Int → Nat) (keys : (T.nodes.map Prod.fst).Nodup) (d : Int) (nd : NodeS) (hd : aget T.nodes d = some nd) (hdir : nd.dir = true) (hnew : aget T.nodes T.next = none)
    (hnx : -1000000000000 ≤ T.next ∧ T.next ≤ 1000000000000) (s : Bytes) (b : Nat) (v : Value) (data : Bytes) (hv : ∃ a c, v = .slice a data.length c) (F : Hp) :
    Spec Tryz.prog 199 [ptr t, ptr (adr d), sv s, ptr b].toArray F [.pt b (.cells [.bool false, .int .i64 1, v, .map none].toArray 172 (0, 0)), RowP v data, TreeA D t T adr]
      fun u H => ∃ Gn, u = .tuple [].toArray ∧ H = TreeA (Gn ++ D) t (mkT T d nd s ⟨false, 1, data, []⟩) (atOf adr T.next b) :: Gn := by
  unfold Spec
  intro w h q f
  have q1 := (Take.cons s1 .nil).sound q
  obtain ⟨x1, y1, sp, ⟨Gn, hG, qG⟩, q2⟩ := q1
  have hsub : ∀ y ∈ D, y ∈ Gn ++ D := fun y hy => List.mem_append_right _ hy
  have hN : NodeI (Gn ++ D) b ⟨false, 1, data, []⟩ [.pt b (.cells [.bool false, .int .i64 1, v, .map none].toArray 172 (0, 0))] :=
    ⟨v, ⟨hv, fun F k => hG.rdB k.left⟩, .inl ⟨rfl, rfl, rfl⟩⟩
  have q3 := fold_grp (I := NodeI (Gn ++ D) b ⟨false, 1, data, []⟩) (.cons s0 .nil) hN y1 q2
  have q4 := tree_mono hsub y1 (seps_swap q3)
  have q5 := seps_comm (A := Gn) (B := [TreeA (Gn ++ D) t T adr, grp (NodeI (Gn ++ D) b ⟨false, 1, data, []⟩)]) h (seps_append.2 ⟨x1, y1, sp, qG, q4⟩)
  have sf := Spec.frame (P := Tryz.prog) (f := 199) (args := [ptr t, ptr (adr d), sv s, ptr b].toArray) (F := F) (Rest := Gn) (take_app [TreeA (Gn ++ D) t T adr, grp (NodeI (Gn ++ D) b ⟨false, 1, data, []⟩)] Gn)
    (fun F' e k => tree_make (Gn ++ D) t T adr keys d nd hd hdir hnew hnx s b ⟨false, 1, data, []⟩ F')
  unfold Spec at sf
  refine (sf w h q5 f).mono ?_
  rintro e w' ⟨u, H', h', he, ⟨G, ⟨hu, rfl⟩, rfl⟩, q', f', kp⟩
  exact ⟨u, _, h', he, ⟨Gn, hu, rfl⟩, q', f', kp⟩

set_option maxHeartbeats 4000000 in
theorem tree_step (D : List HA) (t : Nat) (T : TreeS) (adr : Int → Nat) (N : Nat) (ok : T.Ok N) (kind : Int) (path tgt data : Bytes) (x : Value) (F : Hp) (g : Glob F) (hx : RdB F x data) (hlen : data.length ≤ 1099511627) :
    Spec Tryz.prog 150 [ptr t, .agg (opC kind path tgt x).toArray].toArray F [TreeA D t T adr] (FileR D t (stepT T ⟨kind, path, tgt, data⟩)) := by
  have keys := ok.keys
  have hnxt : -1000000000000 ≤ T.next ∧ T.next ≤ 1000000000000 := by
    have h1 := ok.next
    have h2 := ok.great
    omega
  have hnew : aget T.nodes T.next = none := by
    cases h : aget T.nodes T.next with
    | none => rfl
    | some n => have := ok.fresh _ n h; omega
  have hlx := hx.len
  obtain ⟨xa, xc, rfl, _⟩ := id hx
  have hres : stepT T ⟨kind, path, tgt, data⟩ = (if kind < 0 ∨ 6 < kind then (1, T) else if (T.place path).2.2 ≠ 0 then ((T.place path).2.2, T) else if 3500 < data.length then (6, T) else
    if kind = 0 ∨ kind = 2 then
      if kidAt T (T.place path).1 (T.place path).2.1 ≠ 0 then (9, T) else (0, mkAt T (T.place path).1 (T.place path).2.1 (if kind = 0 then ⟨true, 1, [], []⟩ else ⟨false, 1, data, []⟩))
    else if kidAt T (T.place path).1 (T.place path).2.1 = 0 then (8, T) else
      if kind = 1 then
        if dirAt T (kidAt T (T.place path).1 (T.place path).2.1) = false then (11, T) else if noKids T (kidAt T (T.place path).1 (T.place path).2.1) = false then (12, T)
        else (0, rmAt T (T.place path).1 (T.place path).2.1 (kidAt T (T.place path).1 (T.place path).2.1))
      else if dirAt T (kidAt T (T.place path).1 (T.place path).2.1) = true then (10, T) else fileT T kind tgt data (T.place path).1 (T.place path).2.1 (kidAt T (T.place path).1 (T.place path).2.1)) := rfl
  generalize stepT T ⟨kind, path, tgt, data⟩ = res at *
  refine Spec.enterC (n := 108) Tryz.func150 rfl (by simp) (by kernel_rfl) fun ec hc => ?_
  cbv at hc
  injection hc with hc
  subst hc
  simp only [argFr, Nat.reduceAdd]
  refine go ?_
  refine Ops.box (vs := opC kind path tgt (.slice xa data.length xc)) rfl rfl fun b6 => ?_
  refine go1 ?_
  refine Ops.nil (Segs.nil ?_)
  refine Run.lendD [_] (.cons s0 .nil) fun F1 x1 k1 => ?_
  have hop := k1 _ _ m0
  have g1 := g.ext x1
  have hx1 := hx.ext x1
  clear k1
  refine go ?_
  refine Ops.ldF rfl hop rfl ?_
  refine go ?_
  have hsame : ∀ {K : List EI} {l0 : Fr} {e : Int}, res = (e, T) → look l0 4 = some (.int .i64 e) → Run Tryz.prog 150 108 F1 (.code .ret :: K) l0 [TreeA D t T adr] (FileR D t res) := by
    intro K l0 e hr hl
    exact Run.ret1 Tryz.func150 rfl hl (fun h q => q) ⟨[], adr, by rw [hr], by rw [hr]; rfl⟩
  by_cases hk0 : kind < 0
  · rw [if_pos (.inl hk0)] at hres
    have e : decide (kind < 0) = true := decide_eq_true hk0
    simp only [e]
    refine go ?_
    refine Run.condT rfl ?_
    refine go ?_
    exact hsame hres rfl
  have e0 : decide (kind < 0) = false := decide_eq_false hk0
  simp only [e0]
  refine go ?_
  refine Ops.ldF rfl hop rfl ?_
  refine go ?_
  refine Run.condD (p := 6 < kind) rfl (fun h6 => ?_) (fun h6 => ?_)
  · rw [if_pos (.inr h6)] at hres
    refine go ?_
    exact hsame hres rfl
  rw [if_neg (by omega)] at hres
  refine go ?_
  refine Ops.ldF rfl hop rfl ?_
  refine Ops.call1 rfl (.cons s0 .nil) (fun F' e kn => tree_place D t T adr N ok path F' (g1.ext e)) ?_
  rintro v G ⟨rfl, rfl⟩
  simp only [List.cons_append, List.nil_append]
  have hpd : ∀ d s, T.place path = (d, s, 0) → ∃ n, aget T.nodes d = some n ∧ n.dir = true := fun d s h => place_dir ok h
  generalize T.place path = pl at *
  obtain ⟨d, s, err⟩ := pl
  dsimp only at hres
  unfold placeV
  dsimp only
  refine go1 ?_
  refine Ops.nil (Segs.nil ?_)
  by_cases he : err = 0
  · subst he
    rw [if_neg (by simp)] at hres
    obtain ⟨nd, hd, hdir⟩ := hpd d s rfl
    simp only [if_true]
    refine go ?_
    refine Run.condF rfl ?_
    refine go ?_
    refine Ops.ldF rfl hop rfl ?_
    refine go ?_
    refine Run.condD rfl (fun hl => ?_) (fun hl => ?_)
    · rw [if_pos (by omega)] at hres
      refine go ?_
      exact hsame hres rfl
    rw [if_neg (by omega)] at hres
    have hkid : kidAt T d s = kidOf nd s := by unfold kidAt; rw [hd]; rfl
    rw [hkid] at hres
    refine Run.treeAt2 keys hd fun m es ck x0 km ks fr h1 hx0 hks hfr => ?_
    obtain ⟨r, es2, ck2, rfl, hr, rfl⟩ := hks.dir hdir
    obtain ⟨fr2, hf2, hg2, _, _⟩ := hr.find same_s s
    simp only [List.cons_append, List.nil_append]
    refine go ?_
    refine Ops.lkp rfl rfl m3 hf2 ?_
    rw [kid_found hg2]
    refine go1 ?_
    refine Ops.nil (Segs.nil ?_)
    refine Run.conseq (fun h q => tree_shut2 (ks := [_]) keys hd h1 hx0 hks h q) ?_
    have him : kidOf nd s ≠ 0 → ∃ ni, aget T.nodes (kidOf nd s) = some ni := by
      intro h0
      unfold kidOf at h0 ⊢
      cases hgk : aget nd.kids s with
      | none => rw [hgk] at h0; exact absurd rfl h0
      | some k => exact (ok.kids d nd s k hd hgk).2
    have hself : kidOf nd s ≠ 0 → nd.kids ≠ [] := by
      intro h0 h2
      apply h0
      unfold kidOf
      rw [h2]; rfl
    generalize kidOf nd s = i at *
    have hmk : ∀ n, mkAt T d s n = mkT T d nd s n := fun n => by unfold mkAt; rw [hd]
    rcases (show kind = 0 ∨ kind = 2 ∨ kind = 1 ∨ 3 ≤ kind by omega) with hk | hk | hk | hk
    · subst hk
      simp only [true_or, if_true] at hres
      refine go ?_
      refine Ops.ldF rfl hop rfl ?_
      refine go ?_
      refine Run.condT rfl ?_
      refine go ?_
      refine Run.condT rfl ?_
      refine go ?_
      by_cases hi0 : i = 0
      · rw [if_neg (by simp [hi0]), hmk] at hres
        refine Run.condF (by simp [get, look, hi0]) ?_
        refine go ?_
        refine Ops.ldF rfl hop rfl ?_
        refine go ?_
        refine Run.condT rfl ?_
        refine go ?_
        refine Ops.mkm fun r => ?_
        refine go1 ?_
        refine Ops.bld [.bool true, .int .i64 1, .slice none 0 0, .map (some r)] rfl rfl ?_
        refine Ops.box (vs := [.bool true, .int .i64 1, .slice none 0 0, .map (some r)]) rfl rfl fun b => ?_
        refine Ops.callE1 [TreeA D t T adr, grp (NodeI D b ⟨true, 1, [], []⟩)] [] rfl (fun h q => ?_) (fun F' e kn => tree_make D t T adr keys d nd hd hdir hnew hnxt s b ⟨true, 1, [], []⟩ F') ?_
        · exact seps_swap (fold_grp (I := NodeI D b ⟨true, 1, [], []⟩) (.cons s0 (.cons s0 .nil)) ⟨.slice none 0 0, ⟨⟨none, 0, rfl⟩, fun F k => RdB.nil⟩, .inr ⟨r, [], 0, MapR.nil, rfl⟩⟩ h q)
        rintro v G ⟨rfl, rfl⟩
        simp only [List.cons_append, List.nil_append, List.append_nil]
        refine go ?_
        exact Run.ret1 Tryz.func150 rfl rfl (fun h q => q) ⟨[], _, by rw [hres], by rw [hres]; rfl⟩
      · rw [if_pos hi0] at hres
        refine Run.condT (by simp [get, look, hi0]) ?_
        refine go ?_
        exact hsame hres rfl
    · subst hk
      simp only [or_true, if_true, Int.reduceEq, if_false] at hres
      refine go ?_
      refine Ops.ldF rfl hop rfl ?_
      refine go ?_
      refine Run.condF rfl ?_
      refine go ?_
      refine Run.condT rfl ?_
      refine go ?_
      by_cases hi0 : i = 0
      · rw [if_neg (by simp [hi0]), hmk] at hres
        refine Run.condF (by simp [get, look, hi0]) ?_
        refine go ?_
        refine Ops.ldF rfl hop rfl ?_
        refine go ?_
        refine Run.condF rfl ?_
        refine go ?_
        refine Ops.ldF rfl hop rfl ?_
        refine Ops.call1 rfl .nil (fun F' e kn => slices_Clone_byte' _ data F' (hx1.ext e) hlen) ?_
        rintro v G ⟨va, vc, hv, rfl⟩
        subst hv
        simp only [List.cons_append, List.nil_append]
        refine Ops.bld [.bool false, .int .i64 1, .slice va data.length vc, .map none] rfl rfl ?_
        refine Ops.box (vs := [.bool false, .int .i64 1, .slice va data.length vc, .map none]) rfl rfl fun b => ?_
        refine Ops.call1 rfl (.cons s0 (.cons s0 (.cons s0 .nil))) (fun F' e kn => tree_make_data D t T adr keys d nd hd hdir hnew hnxt s b _ data ⟨va, vc, rfl⟩ F') ?_
        rintro v G ⟨Gn, rfl, rfl⟩
        simp only [List.append_nil]
        refine go ?_
        exact Run.ret1 Tryz.func150 rfl rfl (fun h q => q) ⟨Gn, _, by rw [hres], by rw [hres]⟩
      · rw [if_pos hi0] at hres
        refine Run.condT (by simp [get, look, hi0]) ?_
        refine go ?_
        exact hsame hres rfl
    · subst hk
      simp only [Int.reduceEq, or_self, if_false, if_true] at hres
      refine go ?_
      refine Ops.ldF rfl hop rfl ?_
      refine go ?_
      refine Run.condF rfl ?_
      refine go ?_
      refine Run.condF rfl ?_
      refine go ?_
      refine Run.condD (p := i = 0) rfl (fun hi0 => ?_) (fun hi0 => ?_)
      · rw [if_pos hi0] at hres
        refine go ?_
        exact hsame hres rfl
      rw [if_neg hi0] at hres
      obtain ⟨ni, hi⟩ := him hi0
      have hdi : dirAt T i = ni.dir := by unfold dirAt; rw [hi]; rfl
      have hnk : noKids T i = decide (ni.kids = []) := by unfold noKids; rw [hi]; rfl
      rw [hdi, hnk] at hres
      refine Run.treeAt2 keys hi fun m es ck x0 km ks fr h1 hx0 hks hfr => ?_
      refine go ?_
      refine Ops.lkp rfl rfl m2 hfr ?_
      refine go ?_
      refine Ops.ldF rfl hop rfl ?_
      refine go ?_
      refine Run.condT rfl ?_
      refine go ?_
      cases hdr : ni.dir with
      | false =>
        rw [hdr, if_pos rfl] at hres
        refine Run.condT rfl ?_
        refine go ?_
        refine Run.ret1 Tryz.func150 rfl rfl (H' := [TreeA D t T adr]) (fun h q => tree_shut2 keys hi h1 hx0 hks h (by first | exact q | (rw [hdr]; exact q))) ⟨[], adr, by rw [hres], by rw [hres]; rfl⟩
      | true =>
        rw [hdr, if_neg (by simp)] at hres
        obtain ⟨r, es2, ck2, rfl, hr, rfl⟩ := hks.dir hdr
        have hlen2 : es2.length = ni.kids.length := by rw [hr.len, List.length_map]
        simp only [List.cons_append, List.nil_append]
        refine Run.condF rfl ?_
        refine go ?_
        refine Ops.lenm rfl m3 ?_
        rw [hlen2]
        refine go ?_
        refine Run.condD rfl (fun hk => ?_) (fun hk => ?_)
        · have hne : ni.kids ≠ [] := by intro e; rw [e] at hk; simp at hk
          rw [if_pos (by simpa using hne)] at hres
          refine go ?_
          refine Run.ret1 Tryz.func150 rfl rfl (H' := [TreeA D t T adr]) (fun h q => tree_shut2 (ks := [_]) keys hi h1 hx0 hks h (by first | exact q | (rw [hdr]; exact q))) ⟨[], adr, by rw [hres], by rw [hres]; rfl⟩
        · have hnil : ni.kids = [] := List.length_eq_zero_iff.1 (by omega)
          rw [if_neg (by simp [hnil])] at hres
          refine Run.conseq (fun h q => tree_shut2 (ks := [_]) keys hi h1 hx0 hks h (by first | exact q | (rw [hdr]; exact q))) ?_
          have hdni : d ≠ i := by
            intro e
            subst e
            rw [hd] at hi
            cases hi
            exact hself hi0 hnil
          refine Run.treeAt2 keys hd fun m es ck x0 km ks fr h1 hx0 hks hfr => ?_
          obtain ⟨r, es2, ck2, rfl, hr, rfl⟩ := hks.dir hdir
          obtain ⟨fr2, hf2, _, _, hdel⟩ := hr.find same_s s
          rw [encV_del] at hdel
          simp only [List.cons_append, List.nil_append]
          refine go ?_
          refine Ops.del rfl rfl hf2 u3 ?_
          refine go1 ?_
          refine Ops.nil (Segs.nil ?_)
          refine Run.conseq (fun h q => tree_upd (ks := [_]) keys hd h1 (noKid s) hx0 (.inr ⟨r, _, _, rfl, hdel, rfl⟩) h q) ?_
          have hk1 := updN_keys keys d (noKid s)
          have hi1 : aget (updN T d (noKid s)).nodes i = some ni := by rw [updN_get hd, if_neg hdni]; exact hi
          refine Run.treeAt2 hk1 hi1 fun m es ck x0 km ks fr h1 hx0 hks hfr => ?_
          obtain ⟨fr3, hf3, _, _, hdel3⟩ := h1.find same_i i
          obtain rfl := fr_same hf3 hfr
          rw [adel_enc] at hdel3
          refine go ?_
          refine Ops.del rfl rfl hfr u2 ?_
          refine go ?_
          refine Run.ret1 Tryz.func150 rfl rfl (H' := [TreeA D t (rmAt T d s i) adr]) (fun h q => ?_) ⟨[], adr, by rw [hres], by rw [hres]; rfl⟩
          exact tree_less hdel3 h (seps_drop [_, _] h (seps_tail q))
    · have n0 : ¬ (kind = 0 ∨ kind = 2) := by omega
      have n1 : ¬ kind = 1 := by omega
      have d0 : decide (kind = 0) = false := decide_eq_false (by omega)
      have d1 : decide (kind = 1) = false := decide_eq_false (by omega)
      have d2 : decide (kind = 2) = false := decide_eq_false (by omega)
      rw [if_neg n0] at hres
      refine go ?_
      refine Ops.ldF rfl hop rfl ?_
      refine go ?_
      refine Run.condF (by simp [get, look, d0]) ?_
      refine go ?_
      refine Run.condF (by simp [get, look, d2]) ?_
      refine go ?_
      refine Run.condD (p := i = 0) rfl (fun hi0 => ?_) (fun hi0 => ?_)
      · rw [if_pos hi0] at hres
        refine go ?_
        exact hsame hres rfl
      rw [if_neg hi0, if_neg n1] at hres
      obtain ⟨ni, hi⟩ := him hi0
      have hdi : dirAt T i = ni.dir := by unfold dirAt; rw [hi]; rfl
      rw [hdi] at hres
      refine Run.treeAt2 keys hi fun m es ck x0 km ks fr h1 hx0 hks hfr => ?_
      refine go ?_
      refine Ops.lkp rfl rfl m2 hfr ?_
      refine go ?_
      refine Ops.ldF rfl hop rfl ?_
      refine go ?_
      refine Run.condF (by simp [get, look, d1]) ?_
      refine go ?_
      cases hdr : ni.dir with
      | true =>
        rw [hdr, if_pos rfl] at hres
        refine Run.condT rfl ?_
        refine go ?_
        refine Run.ret1 Tryz.func150 rfl rfl (H' := [TreeA D t T adr]) (fun h q => tree_shut2 keys hi h1 hx0 hks h (by first | exact q | (rw [hdr]; exact q))) ⟨[], adr, by rw [hres], by rw [hres]; rfl⟩
      | false =>
        rw [hdr, if_neg (by simp)] at hres
        refine Run.condF rfl ?_
        refine Run.conseq (fun h q => tree_shut2 keys hi h1 hx0 hks h (by first | exact q | (rw [hdr]; exact q))) ?_
        refine go ?_
        refine Ops.ldnF rfl hop (by simp [opC]) ?_
        refine go1 ?_
        refine Ops.call1 rfl (.cons s0 .nil) (fun F' e kn => tree_file D t T adr N ok kind ⟨hk, by omega⟩ path tgt data _ d i s nd ni hd hdir hi hdr hi0 F' (g1.ext e) (hx1.ext e) hlen) ?_
        rintro v G ⟨Gn, adr', rfl, rfl⟩
        simp only [List.append_nil]
        refine go ?_
        exact Run.ret1 Tryz.func150 rfl rfl (fun h q => q) ⟨Gn, adr', by rw [hres], by rw [hres]⟩
  · rw [if_pos he] at hres
    rw [if_neg he]
    refine go ?_
    refine Run.condT (by simp [get, look, he]) ?_
    refine go ?_
    exact hsame hres rfl
end Eng
end Go.Proofs.YtnfomoeicgdkkaaGreatDoor

/- A tree is cloned. -/
set_option linter.unusedSimpArgs false
set_option linter.unusedVariables false
namespace Go.Proofs.YtnfomoeicgdkkaaGreatDoor
namespace Eng

theorem maps_Clone (r : Nat) (es : List MapEntry) (ck : Nat) (F : Hp) (hF : F r = some (.map es.toArray ck)) : Spec Tryz.prog 149 [.map (some r)].toArray F [] fun v H => ∃ b, v = .map (some b) ∧ H = [.pt b (.map es.toArray ck)] := by
  unfold Spec
  intro w h q f
  refine (AnyW.maps_Clone Tryz.cloneM r es.toArray ck w (f.frm _ _ hF)).mono ?_
  rintro e w' ⟨rfl, rfl⟩
  exact ⟨_, _, _, rfl, ⟨w.heap.size, rfl, rfl⟩, seps_new _ q f.fresh.1, f.new _, Keeps.newBlk w _⟩

theorem maps_Clone_nil (F : Hp) : Spec Tryz.prog 149 [.map none].toArray F [] fun v H => v = .map none ∧ H = [] := by
  unfold Spec
  intro w h q f
  refine (AnyW.maps_Clone_nil Tryz.cloneM w).mono ?_
  rintro e w' ⟨rfl, rfl⟩
  exact ⟨_, _, h, rfl, ⟨rfl, rfl⟩, trivial, f, Keeps.refl _⟩
theorem clone_kids {km : Option Nat} {n : NodeS} {ks : List HA} (h : KidsI km n ks) (F : Hp) (kn : Known ks F) : Spec Tryz.prog 149 [.map km].toArray F [] fun v H => ∃ km' ks', v = .map km' ∧ KidsI km' n ks' ∧ H = ks' := by
  rcases h with ⟨rfl, h1, h2, rfl⟩ | ⟨r, es, ck, rfl, h1, rfl⟩
  · exact (maps_Clone_nil F).mono fun v H ⟨e1, e2⟩ => ⟨none, [], e1, .inl ⟨rfl, h1, h2, rfl⟩, e2⟩
  · exact (maps_Clone r es ck F (kn _ _ m0)).mono fun v H ⟨b, e1, e2⟩ => ⟨some b, _, e1, .inr ⟨b, es, ck, rfl, h1, rfl⟩, e2⟩

/-- a node more stands in the clone -/
theorem clone_close {D : List HA} {t u m um : Nat} {T : TreeS} {adr adr' : Int → Nat} {k : Int} {n : NodeS} {L : List (Int × NodeS)} {it b : Nat} {o : Obj} {es es' : List MapEntry} {ck ck' : Nat} {x : Value} {km km' : Option Nat} {ks ks' : List HA}
    (keys : (T.nodes.map Prod.fst).Nodup) (hn : aget T.nodes k = some n) (hkL : ∀ y ∈ L, y.1 ≠ k) (hx : DataR D x n.data) (hk : KidsI km n ks) (hk' : KidsI km' n ks') (h : MapR encI es' ck' ((k, ptr b) :: L.map (encN adr'))) :
    ∀ w, seps (treeC u um ⟨L, T.next, T.quota⟩ :: nodeC (adr k) n x km :: nodeC b n x km' :: .pt um (.map es'.toArray ck') :: .pt it o :: treeC t m T :: .pt m (.map es.toArray ck) :: (ks' ++ (L.map (NodeP D adr') ++ (ks ++ (adel T.nodes k).map (NodeP D adr))))) w →
      seps (.pt it o :: treeC t m T :: .pt m (.map es.toArray ck) :: TreeA D u ⟨(k, n) :: L, T.next, T.quota⟩ (atOf adr' k b) :: T.nodes.map (NodeP D adr)) w := by
  intro w q
  have q1 := (Take.cons s2 .nil).sound q
  have q2 : seps ((nodeC b n x km' :: ks') ++ ([treeC u um ⟨L, T.next, T.quota⟩, nodeC (adr k) n x km, .pt um (.map es'.toArray ck'), .pt it o, treeC t m T, .pt m (.map es.toArray ck)] ++ (L.map (NodeP D adr') ++ (ks ++ (adel T.nodes k).map (NodeP D adr))))) w :=
    seps_cons (fun h q => seps_mid (A := [treeC u um ⟨L, T.next, T.quota⟩, nodeC (adr k) n x km, .pt um (.map es'.toArray ck'), .pt it o, treeC t m T, .pt m (.map es.toArray ck)]) (B := ks') h q) q1
  have q3 := fold_app (I := NodeI D b n) (hk'.node hx) w q2
  have q4 := (Take.cons s1 (.cons s2 (.cons s0 .nil))).sound q3
  have q5 : seps ((treeC u um ⟨L, T.next, T.quota⟩ :: .pt um (.map es'.toArray ck') :: grp (NodeI D b n) :: L.map (NodeP D adr')) ++ ([nodeC (adr k) n x km, .pt it o, treeC t m T, .pt m (.map es.toArray ck)] ++ (ks ++ (adel T.nodes k).map (NodeP D adr)))) w :=
    seps_cons (fun h q => seps_cons (fun h q => seps_cons (fun h q => seps_mid (A := [nodeC (adr k) n x km, .pt it o, treeC t m T, .pt m (.map es.toArray ck)]) (B := L.map (NodeP D adr')) h q) q) q) q4
  have hadr : ∀ y ∈ L, atOf adr' k b y.1 = adr' y.1 := by
    intro y hy
    unfold atOf
    rw [if_neg (hkL y hy)]
  have hI : TreeI D u ⟨(k, n) :: L, T.next, T.quota⟩ (atOf adr' k b) (treeC u um ⟨L, T.next, T.quota⟩ :: .pt um (.map es'.toArray ck') :: grp (NodeI D b n) :: L.map (NodeP D adr')) := by
    refine ⟨um, es', ck', ?_, ?_⟩
    · rw [List.map_cons, enc_cong _ hadr]
      have e1 : encN (atOf adr' k b) (k, n) = (k, ptr b) := by unfold encN atOf; simp
      rw [e1]; exact h
    · rw [List.map_cons, adr_cong _ hadr]
      have e1 : NodeP D (atOf adr' k b) (k, n) = grp (NodeI D b n) := by unfold NodeP atOf; simp
      rw [e1]
  have q6 := fold_app (I := TreeI D u ⟨(k, n) :: L, T.next, T.quota⟩ (atOf adr' k b)) hI w q5
  have q7 := (Take.cons s1 (.cons s1 (.cons s1 (.cons s1 (.cons s0 .nil))))).sound q6
  have q8 : seps ((nodeC (adr k) n x km :: ks) ++ ([.pt it o, treeC t m T, .pt m (.map es.toArray ck), TreeA D u ⟨(k, n) :: L, T.next, T.quota⟩ (atOf adr' k b)] ++ (adel T.nodes k).map (NodeP D adr))) w :=
    seps_cons (fun h q => seps_mid (A := [.pt it o, treeC t m T, .pt m (.map es.toArray ck), TreeA D u ⟨(k, n) :: L, T.next, T.quota⟩ (atOf adr' k b)]) (B := ks) h q) q7
  exact nodes_push [_, _, _, _] keys hn (hk.node hx) w q8
end Eng
end Go.Proofs.YtnfomoeicgdkkaaGreatDoor

/- The code of the functions with its operations resolved (printed by mkcode.py out of the dump), and that the resolving function gives it. -/
namespace Go.Proofs.YtnfomoeicgdkkaaGreatDoor
namespace Eng

/-- tree_Tree_Clone -/
def ec_tree_Tree_Clone_L0 : EC := .seq (.reg [[EG.mk 0 (some 22) none false (.nxtM (.tmp 21)), EG.mk 1 (some 23) none false (.ext (.tmp 22) 0)]]) (.seq (.cond (.tmp 23) .skip (.exit 0)) (.block 1 (.seq (.reg [[EG.mk 0 (some 24) none false (.ent (.tmp 21)), EG.mk 1 (some 25) none false (.ext (.tmp 24) 0), EG.mk 2 (some 26) none false (.ext (.tmp 24) 1), EG.mk 3 (some 4) none false (.mv (.tmp 25)), EG.mk 4 (some 5) none false (.mv (.tmp 26))]]) (.reg [[EG.mk 0 (some 27) none true (.mv (.tmp 3)), EG.mk 1 (some 28) none true (.nilc (.tmp 27)), EG.mk 2 (some 29) none true (.off (.tmp 28) 0), EG.mk 4 (some 31) none true (.mv (.tmp 4)), EG.mk 5 (some 32) none true (.mv (.tmp 5)), EG.mk 6 (some 33) none true (.nilc (.tmp 32)), EG.mk 7 (some 34) none true (.off (.tmp 33) 0), EG.mk 9 (some 36) none true (.mv (.tmp 5)), EG.mk 10 (some 37) none true (.nilc (.tmp 36)), EG.mk 11 (some 38) none true (.off (.tmp 37) 1), EG.mk 13 (some 40) none true (.mv (.tmp 5)), EG.mk 14 (some 41) none true (.nilc (.tmp 40)), EG.mk 15 (some 42) none true (.off (.tmp 41) 2), EG.mk 17 (some 44) none true (.mv (.tmp 5)), EG.mk 18 (some 45) none true (.nilc (.tmp 44)), EG.mk 19 (some 46) none true (.off (.tmp 45) 3), EG.mk 3 (some 30) none true (.ld1 (.tmp 29)), EG.mk 8 (some 35) none true (.ld1 (.tmp 34)), EG.mk 12 (some 39) none true (.ld1 (.tmp 38)), EG.mk 16 (some 43) none true (.ld1 (.tmp 42)), EG.mk 20 (some 47) none true (.ld1 (.tmp 46)), EG.mk 21 (some 48) none false (.call 149 #[.tmp 47]), EG.mk 22 (some 49) none true (.build [.bool false, .int .i64 0, .slice none 0 0, .map none] [(0, 1, .tmp 35), (1, 1, .tmp 39), (2, 1, .tmp 43), (3, 1, .tmp 48)]), EG.mk 23 (some 50) none false (.box (.tmp 49) 172)], [EG.mk 24 none none false (.mup (.int .i64) (.tmp 30) (.tmp 31) (.tmp 50))]]))))
def ec_tree_Tree_Clone : EC := .seq (.reg [[EG.mk 0 (some 2) none false (.mv (.const (.pointer none)))]]) (.seq (.reg [[EG.mk 1 (some 7) none true (.mv (.tmp 0)), EG.mk 2 (some 8) none true (.nilc (.tmp 7)), EG.mk 3 (some 9) none true (.off (.tmp 8) 1), EG.mk 5 (some 11) none true (.mv (.tmp 0)), EG.mk 6 (some 12) none true (.nilc (.tmp 11)), EG.mk 7 (some 13) none true (.off (.tmp 12) 2), EG.mk 4 (some 10) none true (.ld1 (.tmp 9)), EG.mk 8 (some 14) none true (.ld1 (.tmp 13)), EG.mk 0 (some 6) none false .mkm], [EG.mk 9 (some 15) none true (.build [.map none, .int .i64 0, .int .i64 0] [(0, 1, .tmp 6), (1, 1, .tmp 10), (2, 1, .tmp 14)]), EG.mk 10 (some 16) none false (.box (.tmp 15) 169)], [EG.mk 11 (some 3) none true (.mv (.tmp 16))]]) (.seq (.seq (.reg [[EG.mk 0 (some 17) none false (.mv (.tmp 0)), EG.mk 1 (some 18) none false (.nilc (.tmp 17)), EG.mk 2 (some 19) none false (.off (.tmp 18) 0), EG.mk 3 (some 20) none false (.ld1 (.tmp 19)), EG.mk 4 (some 21) none false (.rngM (.tmp 20))]]) (.block 0 (.loop ec_tree_Tree_Clone_L0))) (.seq (.reg [[EG.mk 0 (some 51) none false (.mv (.tmp 3)), EG.mk 1 (some 2) none false (.mv (.tmp 51))]]) .ret)))
theorem ok_tree_Tree_Clone : compileFn Tryz.prog Tryz.f88 = some ec_tree_Tree_Clone := by kernel_rfl
end Eng
end Go.Proofs.YtnfomoeicgdkkaaGreatDoor

/- A tree is cloned: the walk. -/
set_option linter.unusedSimpArgs false
set_option linter.unusedVariables false
namespace Go.Proofs.YtnfomoeicgdkkaaGreatDoor
namespace Eng
theorem nodup_of_map {α β : Type} {f : α → β} {l : List α} (h : (l.map f).Nodup) : l.Nodup := by
  rw [List.Nodup, List.pairwise_map] at h
  exact h.imp fun hab e => hab (by rw [e])

theorem tree_perm {D : List HA} {u : Nat} {T : TreeS} {L : List (Int × NodeS)} {adr : Int → Nat} {H : List HA} (p : L.Perm T.nodes) : ∀ w, seps (TreeA D u ⟨L, T.next, T.quota⟩ adr :: H) w → seps (TreeA D u T adr :: H) w := by
  rintro w ⟨x, y, sp, ⟨G, ⟨m, es, ck, h1, rfl⟩, q⟩, qr⟩
  refine ⟨x, y, sp, ⟨_, ⟨m, es, ck, h1.perm' (p.map (encN adr)), rfl⟩, ?_⟩, qr⟩
  exact seps_perm (List.Perm.cons _ (List.Perm.cons _ (p.map (NodeP D adr)))) x q

attribute [local irreducible] Ops Segs Run Spec

set_option maxHeartbeats 2000000 in
theorem tree_Clone (D : List HA) (t : Nat) (T : TreeS) (adr : Int → Nat) (N : Nat) (ok : T.Ok N) (F : Hp) : Spec Tryz.prog 88 [ptr t].toArray F [TreeA D t T adr] fun v H =>
    ∃ u adr', v = ptr u ∧ H = [TreeA D u T adr', TreeA D t T adr] := by
  have keys := ok.keys
  refine Spec.enter (n := 52) Tryz.func88 ok_tree_Tree_Clone rfl (by simp) ?_
  unfold ec_tree_Tree_Clone
  simp only [argFr, Nat.reduceAdd]
  refine Run.open_ s0 fun G hG => ?_
  obtain ⟨m, es, ck, h1, rfl⟩ := hG
  have hT : TreeI D t T adr (treeC t m T :: .pt m (.map es.toArray ck) :: T.nodes.map (NodeP D adr)) := ⟨m, es, ck, h1, rfl⟩
  refine Run.conseq (H' := treeC t m T :: .pt m (.map es.toArray ck) :: T.nodes.map (NodeP D adr)) (fun h q => by simpa using q) ?_
  refine go ?_
  refine Segs.lend [_] (.cons s0 .nil) fun F1 x1 k1 => ?_
  refine go1 ?_
  refine Ops.ldF rfl (k1 _ _ m0) rfl ?_
  refine Ops.ldF rfl (k1 _ _ m0) rfl ?_
  refine Ops.mkm fun um => ?_
  refine Ops.nil (Segs.oneS rfl ?_)
  refine Ops.bld [.map (some um), .int .i64 T.next, .int .i64 T.quota] rfl rfl ?_
  refine Ops.box (vs := [.map (some um), .int .i64 T.next, .int .i64 T.quota]) rfl rfl fun u => ?_
  refine go ?_
  refine Ops.rngM rfl (.inl m3) fun it => ?_
  refine go1 ?_
  refine Ops.nil (Segs.nil ?_)
  refine Run.block (Run.loopI (ι := List Nat × List Int × List (Int × NodeS) × (Int → Nat)) (fun x => T.nodes.length - x.2.1.length)
    (fun x => Visit encI es (T.nodes.map (encN adr)) x.1 x.2.1 ∧ (∀ y ∈ x.2.2.1, aget T.nodes y.1 = some y.2) ∧ (x.2.2.1.map Prod.fst).Perm x.2.1)
    (fun x => [(21, .pointer (some ⟨it, 0, none⟩)), (3, ptr u)])
    (fun x => .pt it (.mapIter (some m) ck x.1.toArray ck) :: treeC t m T :: .pt m (.map es.toArray ck) :: TreeA D u ⟨x.2.2.1, T.next, T.quota⟩ x.2.2.2 :: T.nodes.map (NodeP D adr))
    ([], [], [], fun _ => 0) ⟨.start, by simp, .refl _⟩ (.cons rfl (.cons rfl .nil)) (fun h q => ?_) ?_)
  · have q1 := fold_grp (I := TreeI D u ⟨[], T.next, T.quota⟩ (fun _ => 0)) (.cons s1 (.cons s2 .nil)) ⟨um, [], 0, MapR.nil, rfl⟩ h q
    exact (Take.cons s1 (.cons s1 (.cons s1 (.cons s0 .nil)))).sound q1
  rintro ⟨seen, ds, L, adr'⟩ ⟨hv, hL, hperm⟩ ih
  have ihn := ih
  clear ih
  dsimp only at hv hL hperm ihn ⊢
  unfold ec_tree_Tree_Clone_L0
  have hlv := hv.len
  rw [List.length_map] at hlv
  refine go ?_
  refine Ops.nxtM (H1 := fun e => .pt it (.mapIter (some m) ck (seen ++ [e.born]).toArray ck) :: treeC t m T :: .pt m (.map es.toArray ck) :: TreeA D u ⟨L, T.next, T.quota⟩ adr' :: T.nodes.map (NodeP D adr)) rfl (.inl m2) (Nat.le_refl _) h1.lt (fun e => u0) (fun e he hs => ?_) (fun hall => ?_)
  · obtain ⟨k, w, hku, hk1, hk2, hkd, hv2⟩ := hv.step same_i h1 he hs
    obtain ⟨rfl, n, hn⟩ := encN_mem ok hku
    have hv2len := hv2.len
    rw [List.length_map, List.length_append, List.length_append] at hv2len
    simp only [List.length_singleton] at hv2len
    have hent := h1.ent he
    have hkL : ∀ y ∈ L, y.1 ≠ k := by
      intro y hy e
      exact hkd (hperm.mem_iff.1 (by rw [← e]; exact List.mem_map.2 ⟨y, hy, rfl⟩))
    refine go ?_
    refine Run.condT rfl ?_
    refine Run.skip ?_
    refine Run.conseq (nodes_pull [_, _, _, _] keys hn) ?_
    refine Run.open_ s0 fun G hG => ?_
    obtain ⟨x, km, ks, hx, hks, rfl⟩ := hG.kids
    refine Run.conseq (H' := nodeC (adr k) n x km :: ([.pt it (.mapIter (some m) ck (seen ++ [e.born]).toArray ck), treeC t m T, .pt m (.map es.toArray ck), TreeA D u ⟨L, T.next, T.quota⟩ adr'] ++ (ks ++ (adel T.nodes k).map (NodeP D adr)))) (fun h q => seps_cons (fun h q => seps_mid (B := [.pt it (.mapIter (some m) ck (seen ++ [e.born]).toArray ck), treeC t m T, .pt m (.map es.toArray ck), TreeA D u ⟨L, T.next, T.quota⟩ adr']) (A := ks) h q) q) ?_
    simp only [List.cons_append, List.nil_append]
    refine Run.open_ s4 fun G hG2 => ?_
    obtain ⟨um2, es', ck', h2, rfl⟩ := hG2
    obtain ⟨fr, hf, hg, hput, _⟩ := h2.find same_i k
    have hLn : aget L k = none := aget_none.2 hkL
    rw [aget_enc, hLn] at hg
    have hfn : fr = none := by cases fr with | none => rfl | some x => cases hg
    subst hfn
    refine Run.conseq (H' := treeC u um2 ⟨L, T.next, T.quota⟩ :: .pt um2 (.map es'.toArray ck') :: ([nodeC (adr k) n x km, .pt it (.mapIter (some m) ck (seen ++ [e.born]).toArray ck), treeC t m T, .pt m (.map es.toArray ck)] ++ (L.map (NodeP D adr') ++ (ks ++ (adel T.nodes k).map (NodeP D adr)))))
      (fun h q => seps_cons (fun h q => seps_cons (fun h q => seps_mid (B := [nodeC (adr k) n x km, .pt it (.mapIter (some m) ck (seen ++ [e.born]).toArray ck), treeC t m T, .pt m (.map es.toArray ck)]) (A := L.map (NodeP D adr')) h q) q) q) ?_
    refine go ?_
    refine Ops.ent rfl m3 (.inl m5) hent ?_
    rw [hk1, hk2]
    refine go ?_
    refine Segs.lend [_, _] (.cons s0 (.cons s1 .nil)) fun F2 x2 k2 => ?_
    refine go1 ?_
    refine Ops.ldF rfl (k2 _ _ m0) rfl ?_
    refine go1 ?_
    refine Ops.ldF rfl (k2 _ _ m1) rfl ?_
    refine go1 ?_
    refine Ops.ldF rfl (k2 _ _ m1) rfl ?_
    refine go1 ?_
    refine Ops.ldF rfl (k2 _ _ m1) rfl ?_
    refine go1 ?_
    refine Ops.ldF rfl (k2 _ _ m1) rfl ?_
    refine Ops.call1 rfl .nil (fun F' e kn => clone_kids hks F' fun b o mm => kn b o (by simp [mm])) ?_
    rintro v G ⟨km', ks', rfl, hks', rfl⟩
    refine go1 ?_
    refine Ops.bld [.bool n.dir, .int .i64 n.links, x, .map km'] rfl ?_ ?_
    · obtain ⟨⟨a, c, rfl⟩, _⟩ := hx
      rfl
    refine Ops.box (vs := [.bool n.dir, .int .i64 n.links, x, .map km']) rfl rfl fun b => ?_
    refine Ops.nil ?_
    refine Segs.conseq (H' := treeC u um2 ⟨L, T.next, T.quota⟩ :: nodeC (adr k) n x km :: nodeC b n x km' :: ([.pt um2 (.map es'.toArray ck'), .pt it (.mapIter (some m) ck (seen ++ [e.born]).toArray ck), treeC t m T, .pt m (.map es.toArray ck)] ++ (G ++ (L.map (NodeP D adr') ++ (ks ++ (adel T.nodes k).map (NodeP D adr))))))
      (fun h q => seps_cons (fun h q => seps_cons (fun h q => seps_cons (fun h q => seps_mid (B := [.pt um2 (.map es'.toArray ck'), .pt it (.mapIter (some m) ck (seen ++ [e.born]).toArray ck), treeC t m T, .pt m (.map es.toArray ck)]) (A := G) h q) q) q) q) closed_run ?_
    simp only [List.cons_append, List.nil_append]
    refine Segs.oneS rfl ?_
    refine Ops.mup rfl rfl rfl hf u3 ?_
    refine go ?_
    have hput2 := hput (ptr b)
    have hmap : MapR encI (mapPut es' ck' (encI k) (ptr b) none) (mapClock ck' none) ((k, ptr b) :: L.map (encN adr')) := by
      unfold aput at hput2
      rw [adel_enc, adel_none (m := L) hkL] at hput2
      exact hput2
    refine Run.lp (Run.again (ihn (seen ++ [e.born], ds ++ [k], (k, n) :: L, atOf adr' k b) (by dsimp only; simp only [List.length_append, List.length_singleton]; omega) ⟨hv2, ?_, ?_⟩) (.cons rfl (.cons rfl .nil)) (fun h q => clone_close keys hn hkL hx hks hks' hmap h q))
    · intro y hy
      cases hy with
      | head => exact hn
      | tail _ hy => exact hL y hy
    · dsimp only
      rw [List.map_cons]
      exact (hperm.cons k).trans (List.perm_append_singleton k ds).symm
  · have hp := hv.fin h1 hall
    rw [enc_fst] at hp
    refine go ?_
    refine Run.condF rfl (Run.exit rfl ?_)
    refine go ?_
    have hLn : (L.map Prod.fst).Nodup := (hperm.trans hp.symm).nodup_iff.2 keys
    have hLT : L.Perm T.nodes := by
      have n1 : L.Nodup := nodup_of_map hLn
      have n2 : T.nodes.Nodup := nodup_of_map keys
      rw [List.perm_ext_iff_of_nodup n1 n2]
      rintro ⟨k, n⟩
      constructor
      · intro hy
        exact aget_mem (hL _ hy)
      · intro hy
        have h3 : k ∈ L.map Prod.fst := (hperm.trans hp.symm).mem_iff.2 (List.mem_map.2 ⟨_, hy, rfl⟩)
        obtain ⟨⟨k2, n2⟩, hy2, rfl⟩ := List.mem_map.1 h3
        have h4 := hL _ hy2
        have h5 := mem_aget keys hy
        dsimp only at h4 h5
        rw [h4] at h5
        cases h5
        exact hy2
    refine Run.ret1 Tryz.func88 rfl rfl (H' := [TreeA D u T adr', TreeA D t T adr]) (fun h q => ?_) ⟨u, adr', rfl, rfl⟩
    have q1 := (Take.cons s3 .nil).sound q
    have q2 := tree_perm (T := T) hLT h q1
    exact seps_cons (fun h q => fold_app (I := TreeI D t T adr) (R := []) hT h (by rw [List.append_nil]; exact seps_tail q)) q2
end Eng
end Go.Proofs.YtnfomoeicgdkkaaGreatDoor

/- A tree with a root alone. -/
set_option linter.unusedSimpArgs false
set_option linter.unusedVariables false
set_option maxRecDepth 1000000
namespace Go.Proofs.YtnfomoeicgdkkaaGreatDoor

def newT (q : Int) : TreeS := ⟨[(1, ⟨true, 1, [], []⟩)], 2, if q > 0 then q else 0⟩

theorem newT_ok (q : Int) : (newT q).Ok 2 := by
  have h1 : ∀ i n, aget (newT q).nodes i = some n → i = 1 ∧ n = ⟨true, 1, [], []⟩ := by
    intro i n h
    unfold newT at h
    rw [aget_cons] at h
    split at h
    · rename_i e
      cases h
      exact ⟨e.symm, rfl⟩
    · simp [aget] at h
  refine ⟨by simp [newT], ⟨_, rfl, rfl⟩, ?_, ?_, by simp [newT], by simp [newT], ?_, ?_, ?_, by decide, ?_⟩
  · intro i n s k h h2
    rw [(h1 i n h).2] at h2
    simp [aget] at h2
  · intro i n h
    rw [(h1 i n h).2]
    simp
  · intro i n h
    rw [(h1 i n h).2]
    simp
  · intro i n h
    rw [(h1 i n h).2]
    simp
  · intro i n h
    rw [(h1 i n h).1]
    simp
  · intro i n h
    rw [(h1 i n h).1]
    simp [newT]

namespace Eng
attribute [local irreducible] Ops Segs Run Spec

theorem tree_New (D : List HA) (q : Int) (F : Hp) : Spec Tryz.prog 84 [.int .i64 q].toArray F [] fun v H => ∃ t adr, v = ptr t ∧ H = [TreeA D t (newT q) adr] := by
  refine Spec.enterC (n := 12) Tryz.func84 rfl (by simp) (by kernel_rfl) fun ec hc => ?_
  cbv at hc
  injection hc with hc
  subst hc
  simp only [argFr, Nat.reduceAdd]
  refine go ?_
  refine Ops.mkm fun m => ?_
  refine Ops.mkm fun r => ?_
  refine Ops.bld [.bool true, .int .i64 1, .slice none 0 0, .map (some r)] rfl rfl ?_
  refine Ops.box (vs := [.bool true, .int .i64 1, .slice none 0 0, .map (some r)]) rfl rfl fun b => ?_
  refine Ops.mup (fr := none) rfl rfl rfl rfl u2 ?_
  refine go1 ?_
  refine Ops.bld [.map (some m), .int .i64 2, .int .i64 (if q > 0 then q else 0)] rfl rfl ?_
  refine Ops.box (vs := [.map (some m), .int .i64 2, .int .i64 (if q > 0 then q else 0)]) rfl rfl fun t => ?_
  refine go ?_
  refine Run.ret1 Tryz.func84 rfl rfl (H' := [TreeA D t (newT q) (fun _ => b)]) (fun h q2 => ?_) ⟨t, _, rfl, rfl⟩
  have hN : NodeI D b ⟨true, 1, [], []⟩ [.pt b (.cells [.bool true, .int .i64 1, .slice none 0 0, .map (some r)].toArray 172 (0, 0)), .pt r (.map (List.toArray []) 0)] :=
    ⟨.slice none 0 0, ⟨⟨none, 0, rfl⟩, fun F k => RdB.nil⟩, .inr ⟨r, [], 0, MapR.nil, rfl⟩⟩
  have q3 := fold_grp (I := NodeI D b ⟨true, 1, [], []⟩) (.cons s1 (.cons s1 .nil)) hN h q2
  refine fold_grp (I := TreeI D t (newT q) (fun _ => b)) (.cons s1 (.cons s1 (.cons s0 .nil))) ⟨m, _, _, ?_, rfl⟩ h q3
  obtain ⟨fr, hf, _, hput, _⟩ := (MapR.nil (enc := encI)).find same_i 1
  have : fr = none := by
    have e : Instr.findNow (.int .i64) (encI 1) [] 0 = some none := rfl
    rw [e] at hf
    cases hf; rfl
  subst this
  exact hput (ptr b)
end Eng
end Go.Proofs.YtnfomoeicgdkkaaGreatDoor

/- How many names show a node. -/
set_option linter.unusedSimpArgs false
set_option linter.unusedVariables false
namespace Go.Proofs.YtnfomoeicgdkkaaGreatDoor

def cnt (i : Int) (kids : List (Bytes × Int)) : Nat := (kids.map Prod.snd).count i
def refsL (i : Int) (m : List (Int × NodeS)) : Nat := (m.map fun x => cnt i x.2.kids).sum
def TreeS.refs (T : TreeS) (i : Int) : Nat := refsL i T.nodes

theorem refsL_perm {i : Int} {m m' : List (Int × NodeS)} (p : m.Perm m') : refsL i m = refsL i m' := (p.map _).sum_nat
theorem refsL_cons (i : Int) (x : Int × NodeS) (m : List (Int × NodeS)) : refsL i (x :: m) = cnt i x.2.kids + refsL i m := by
  unfold refsL; rw [List.map_cons, List.sum_cons]

theorem cnt_perm {i : Int} {a b : List (Bytes × Int)} (p : a.Perm b) : cnt i a = cnt i b := (p.map Prod.snd).count_eq i
theorem cnt_cons (i : Int) (s : Bytes) (k : Int) (a : List (Bytes × Int)) : cnt i ((s, k) :: a) = cnt i a + if k = i then 1 else 0 := by
  unfold cnt
  rw [List.map_cons, List.count_cons]
  simp

/-- a name goes -/
theorem cnt_del {i : Int} {a : List (Bytes × Int)} (nd : (a.map Prod.fst).Nodup) (s : Bytes) : cnt i a = cnt i (adel a s) + if aget a s = some i then 1 else 0 := by
  cases h : aget a s with
  | none => rw [adel_none (aget_none.1 h)]; simp
  | some k =>
    rw [cnt_perm (perm_adel nd (aget_mem h)), cnt_cons]
    simp

theorem cnt_put {i : Int} {a : List (Bytes × Int)} (nd : (a.map Prod.fst).Nodup) (s : Bytes) (k : Int) : cnt i (aput a s k) + (if aget a s = some i then 1 else 0) = cnt i a + if k = i then 1 else 0 := by
  unfold aput
  rw [cnt_cons, cnt_del nd s (i := i)]
  omega

/-- a node is turned in its place -/
theorem refs_upd {T : TreeS} (nd : (T.nodes.map Prod.fst).Nodup) {d : Int} {n : NodeS} (hd : aget T.nodes d = some n) (f : NodeS → NodeS) (i : Int) : (updN T d f).refs i + cnt i n.kids = T.refs i + cnt i (f n).kids := by
  have h1 : T.refs i = cnt i n.kids + refsL i (adel T.nodes d) := by
    unfold TreeS.refs
    rw [refsL_perm (perm_adel nd (aget_mem hd)), refsL_cons]
  have h2 : (updN T d f).refs i = cnt i (f n).kids + refsL i (adel T.nodes d) := by
    unfold updN TreeS.refs
    rw [hd]
    exact refsL_cons _ _ _
  omega

theorem refs_del {T : TreeS} (nd : (T.nodes.map Prod.fst).Nodup) {d : Int} {n : NodeS} (hd : aget T.nodes d = some n) (i : Int) : T.refs i = cnt i n.kids + refsL i (adel T.nodes d) := by
  unfold TreeS.refs
  rw [refsL_perm (perm_adel nd (aget_mem hd)), refsL_cons]

/-- a name that shows a node counts -/
theorem refs_pos {T : TreeS} (nd : (T.nodes.map Prod.fst).Nodup) {d : Int} {n : NodeS} (hd : aget T.nodes d = some n) {s : Bytes} {k : Int} (hk : aget n.kids s = some k) : 1 ≤ T.refs k := by
  have h1 := refs_del nd hd k
  have h2 : 1 ≤ cnt k n.kids := by
    unfold cnt
    exact List.count_pos_iff.2 (List.mem_map.2 ⟨_, aget_mem hk, rfl⟩)
  omega
end Go.Proofs.YtnfomoeicgdkkaaGreatDoor

/- What all trees have that operations made. -/
set_option linter.unusedSimpArgs false
set_option linter.unusedVariables false
namespace Go.Proofs.YtnfomoeicgdkkaaGreatDoor

structure TreeS.Inv (T : TreeS) : Prop where
  keys : (T.nodes.map Prod.fst).Nodup
  kkeys : ∀ i n, aget T.nodes i = some n → (n.kids.map Prod.fst).Nodup
  root : ∃ n, aget T.nodes 1 = some n ∧ n.dir = true
  kids : ∀ i n s k, aget T.nodes i = some n → aget n.kids s = some k → ∃ n', aget T.nodes k = some n'
  rootno : T.refs 1 = 0
  dirs : ∀ i n, aget T.nodes i = some n → n.dir = true → n.links = 1 ∧ (i ≠ 1 → T.refs i = 1)
  files : ∀ i n, aget T.nodes i = some n → n.dir = false → n.kids = [] ∧ n.links = (T.refs i : Int)
  fresh : ∀ i n, aget T.nodes i = some n → 1 ≤ i ∧ i < T.next
  data : ∀ i n, aget T.nodes i = some n → n.data.length ≤ 3500

/-- how great a tree's numbers are -/
structure TreeS.Few (T : TreeS) (N : Nat) : Prop where
  len : T.nodes.length ≤ N
  next : 0 ≤ T.next ∧ T.next ≤ N
  refs : ∀ i, T.refs i ≤ N
  one : 1 ≤ N
  great : N ≤ 1000000000

theorem TreeS.Inv.ok {T : TreeS} (h : T.Inv) {N : Nat} (f : T.Few N) : T.Ok N := by
  refine ⟨h.keys, h.root, ?_, h.kkeys, f.len, f.next, ?_, ?_, ?_, f.great, fun i n hi => (h.fresh i n hi).2⟩
  · intro i n s k hi hk
    obtain ⟨n', hn'⟩ := h.kids i n s k hi hk
    have := (h.fresh k n' hn').1
    exact ⟨by omega, n', hn'⟩
  · intro i n hi
    have h1 := f.one
    have h2 := f.refs i
    cases hd : n.dir with
    | true => have := (h.dirs i n hi hd).1; omega
    | false => have := (h.files i n hi hd).2; omega
  · intro i n hi; have := h.data i n hi; omega
  · intro i n hi
    have h1 := h.fresh i n hi
    have h2 := f.next
    omega

theorem refs_zero {T : TreeS} (nd : (T.nodes.map Prod.fst).Nodup) (kk : ∀ i n, aget T.nodes i = some n → (n.kids.map Prod.fst).Nodup) {k : Int} (h : ∀ i n s, aget T.nodes i = some n → aget n.kids s ≠ some k) : T.refs k = 0 := by
  unfold TreeS.refs refsL
  rw [List.sum_eq_zero_iff_forall_eq_nat]
  intro c hc
  obtain ⟨⟨i, n⟩, hx, rfl⟩ := List.mem_map.1 hc
  have hi := mem_aget nd hx
  unfold cnt
  rw [List.count_eq_zero]
  intro hm
  obtain ⟨⟨s, k'⟩, hy, rfl⟩ := List.mem_map.1 hm
  exact h i n s hi (mem_aget (kk i n hi) hy)

theorem TreeS.Inv.refs_next {T : TreeS} (h : T.Inv) : T.refs T.next = 0 := by
  refine refs_zero h.keys h.kkeys ?_
  intro i n s hi hk
  obtain ⟨n', hn'⟩ := h.kids i n s _ hi hk
  have := (h.fresh _ n' hn').2
  omega
end Go.Proofs.YtnfomoeicgdkkaaGreatDoor

/- The invariant is kept where a node comes. -/
set_option linter.unusedSimpArgs false
set_option linter.unusedVariables false
namespace Go.Proofs.YtnfomoeicgdkkaaGreatDoor

theorem aget_adel {K V : Type} [DecidableEq K] (m : List (K × V)) (k k' : K) : aget (adel m k) k' = if k = k' then none else aget m k' := by
  by_cases h : k = k'
  · rw [if_pos h]
    subst h
    exact aget_none.2 (adel_not m k)
  · have v : ∀ v : V, aget (aput m k v) k' = aget m k' := fun v => by rw [aget_aput, if_neg h]
    rw [if_neg h]
    unfold aget adel
    congr 1
    rw [List.find?_filter]
    apply congrArg (fun f => List.find? f m)
    funext x
    by_cases e : x.1 = k'
    · have : x.1 ≠ k := fun e2 => h (by rw [← e2, e])
      simp [e, this]
      exact fun e2 => h e2.symm
    · simp [e]

theorem mkT_get {T : TreeS} {d : Int} {nd : NodeS} {s : Bytes} {n : NodeS} (x : Int) : aget (mkT T d nd s n).nodes x = if d = x then some { nd with kids := aput nd.kids s T.next } else if T.next = x then some n else aget T.nodes x := by
  unfold mkT
  rw [aget_cons, aget_cons, aget_adel]
  by_cases h : d = x
  · rw [if_pos h, if_pos h]
  · rw [if_neg h, if_neg h, if_neg h]

theorem mkT_refs {T : TreeS} (h : T.Inv) {d : Int} {nd : NodeS} (hd : aget T.nodes d = some nd) {s : Bytes} (hs : aget nd.kids s = none) {n : NodeS} (hn : n.kids = []) (x : Int) : (mkT T d nd s n).refs x = T.refs x + if T.next = x then 1 else 0 := by
  have h1 := refs_del h.keys hd x
  have h2 := cnt_put (h.kkeys d nd hd) s T.next (i := x)
  rw [hs] at h2
  have h3 : (mkT T d nd s n).refs x = cnt x (aput nd.kids s T.next) + (cnt x n.kids + refsL x (adel T.nodes d)) := by
    unfold mkT TreeS.refs
    rw [refsL_cons, refsL_cons]
  have h4 : cnt x n.kids = 0 := by rw [hn]; rfl
  simp only [reduceCtorEq, if_false, Nat.add_zero] at h2
  omega

theorem mkT_inv {T : TreeS} (h : T.Inv) {d : Int} {nd : NodeS} (hd : aget T.nodes d = some nd) (hdir : nd.dir = true) {s : Bytes} (hs : aget nd.kids s = none) {n : NodeS} (hn : n.kids = []) (hl : n.links = 1) (hdl : n.data.length ≤ 3500) : (mkT T d nd s n).Inv := by
  have hne : d ≠ T.next := by have := (h.fresh d nd hd).2; omega
  have hnew : aget T.nodes T.next = none := by
    cases e : aget T.nodes T.next with
    | none => rfl
    | some n => have := (h.fresh _ n e).2; omega
  have hr := mkT_refs h hd hs hn
  have hr0 := h.refs_next
  have h1x : 1 < T.next := by
    obtain ⟨r, hr1, _⟩ := h.root
    exact (h.fresh 1 r hr1).2
  have some_ : ∀ k, (∃ n', aget T.nodes k = some n') ∨ k = T.next → ∃ n', aget (mkT T d nd s n).nodes k = some n' := by
    intro k hk
    rw [mkT_get]
    split
    · exact ⟨_, rfl⟩
    · split
      · exact ⟨_, rfl⟩
      · rename_i h1 h2
        exact hk.resolve_right fun e => h2 e.symm
  have cases_ : ∀ {i m}, aget (mkT T d nd s n).nodes i = some m → (i = d ∧ m = { nd with kids := aput nd.kids s T.next }) ∨ (i = T.next ∧ m = n) ∨ (i ≠ d ∧ i ≠ T.next ∧ aget T.nodes i = some m) := by
    intro i m hi
    rw [mkT_get] at hi
    split at hi
    · rename_i e; cases hi; exact .inl ⟨e.symm, rfl⟩
    · split at hi
      · rename_i e; cases hi; exact .inr (.inl ⟨e.symm, rfl⟩)
      · rename_i e1 e2; exact .inr (.inr ⟨fun e => e1 e.symm, fun e => e2 e.symm, hi⟩)
  refine ⟨?_, ?_, ?_, ?_, ?_, ?_, ?_, ?_, ?_⟩
  · unfold mkT
    rw [List.map_cons, List.map_cons, List.nodup_cons, List.nodup_cons]
    refine ⟨?_, ?_, adel_nodup h.keys d⟩
    · intro hm
      cases hm with
      | head => exact hne rfl
      | tail _ hm =>
        obtain ⟨y, hy, e⟩ := List.mem_map.1 hm
        exact adel_not _ _ y hy e
    · intro hm
      obtain ⟨y, hy, e⟩ := List.mem_map.1 hm
      exact aget_none.1 hnew y (List.mem_filter.1 hy).1 e
  · intro i m hi
    rcases cases_ hi with ⟨_, rfl⟩ | ⟨_, rfl⟩ | ⟨_, _, hi⟩
    · exact aput_nodup (h.kkeys d nd hd) s _
    · rw [hn]; exact .nil
    · exact h.kkeys i m hi
  · obtain ⟨r, hr1, hr2⟩ := h.root
    rw [mkT_get]
    split
    · exact ⟨_, rfl, hdir⟩
    · rw [if_neg (by omega)]; exact ⟨r, hr1, hr2⟩
  · intro i m s' k hi hk
    apply some_
    rcases cases_ hi with ⟨_, rfl⟩ | ⟨_, rfl⟩ | ⟨_, _, hi⟩
    · dsimp only at hk
      rw [aget_aput] at hk
      split at hk
      · cases hk; exact .inr rfl
      · exact .inl (h.kids d nd s' k hd hk)
    · rw [hn] at hk; simp [aget] at hk
    · exact .inl (h.kids i m s' k hi hk)
  · rw [hr, h.rootno, if_neg (by omega)]
  · intro i m hi hm
    rcases cases_ hi with ⟨rfl, rfl⟩ | ⟨rfl, rfl⟩ | ⟨h1, h2, hi⟩
    · have := h.dirs i nd hd hdir
      refine ⟨this.1, fun h1 => ?_⟩
      rw [hr, this.2 h1, if_neg (fun e => hne e.symm)]
    · refine ⟨hl, fun _ => ?_⟩
      rw [hr, hr0, if_pos rfl]
    · have := h.dirs i m hi hm
      refine ⟨this.1, fun h3 => ?_⟩
      rw [hr, this.2 h3, if_neg (fun e => h2 e.symm)]
  · intro i m hi hm
    rcases cases_ hi with ⟨rfl, rfl⟩ | ⟨rfl, rfl⟩ | ⟨h1, h2, hi⟩
    · rw [hdir] at hm; cases hm
    · refine ⟨hn, ?_⟩
      rw [hr, hr0, if_pos rfl, hl]; rfl
    · have := h.files i m hi hm
      refine ⟨this.1, ?_⟩
      rw [hr, if_neg (fun e => h2 e.symm), this.2]; rfl
  · intro i m hi
    show 1 ≤ i ∧ i < T.next + 1
    rcases cases_ hi with ⟨rfl, rfl⟩ | ⟨rfl, rfl⟩ | ⟨h1, h2, hi⟩
    · have := h.fresh i nd hd; omega
    · omega
    · have := h.fresh i m hi; omega
  · intro i m hi
    rcases cases_ hi with ⟨rfl, rfl⟩ | ⟨rfl, rfl⟩ | ⟨h1, h2, hi⟩
    · exact h.data i nd hd
    · exact hdl
    · exact h.data i m hi
end Go.Proofs.YtnfomoeicgdkkaaGreatDoor

/- The invariant is kept where names and links are turned. -/
set_option linter.unusedSimpArgs false
set_option linter.unusedVariables false
namespace Go.Proofs.YtnfomoeicgdkkaaGreatDoor

/-- the invariant, but for how far each file's links are off -/
structure TreeS.InvD (T : TreeS) (δ : Int → Int) : Prop where
  keys : (T.nodes.map Prod.fst).Nodup
  kkeys : ∀ i n, aget T.nodes i = some n → (n.kids.map Prod.fst).Nodup
  root : ∃ n, aget T.nodes 1 = some n ∧ n.dir = true
  kids : ∀ i n s k, aget T.nodes i = some n → aget n.kids s = some k → ∃ n', aget T.nodes k = some n'
  rootno : T.refs 1 = 0
  dirs : ∀ i n, aget T.nodes i = some n → n.dir = true → n.links = 1 ∧ (i ≠ 1 → T.refs i = 1)
  files : ∀ i n, aget T.nodes i = some n → n.dir = false → n.kids = [] ∧ n.links = (T.refs i : Int) + δ i
  fresh : ∀ i n, aget T.nodes i = some n → 1 ≤ i ∧ i < T.next
  data : ∀ i n, aget T.nodes i = some n → n.data.length ≤ 3500

theorem TreeS.Inv.d {T : TreeS} (h : T.Inv) : T.InvD fun _ => 0 :=
  ⟨h.keys, h.kkeys, h.root, h.kids, h.rootno, h.dirs, fun i n hi hd => ⟨(h.files i n hi hd).1, by rw [(h.files i n hi hd).2]; omega⟩, h.fresh, h.data⟩
theorem TreeS.InvD.inv {T : TreeS} {δ : Int → Int} (h : T.InvD δ) (h0 : ∀ i n, aget T.nodes i = some n → n.dir = false → δ i = 0) : T.Inv :=
  ⟨h.keys, h.kkeys, h.root, h.kids, h.rootno, h.dirs, fun i n hi hd => ⟨(h.files i n hi hd).1, by rw [(h.files i n hi hd).2, h0 i n hi hd]; omega⟩, h.fresh, h.data⟩

theorem updN_cases {T : TreeS} {d : Int} {nd : NodeS} (hd : aget T.nodes d = some nd) (f : NodeS → NodeS) {i : Int} {m : NodeS} (hi : aget (updN T d f).nodes i = some m) : (i = d ∧ m = f nd) ∨ (i ≠ d ∧ aget T.nodes i = some m) := by
  rw [updN_get hd] at hi
  split at hi
  · rename_i e; cases hi; exact .inl ⟨e.symm, rfl⟩
  · rename_i e; exact .inr ⟨fun x => e x.symm, hi⟩
theorem updN_some {T : TreeS} {d : Int} {nd : NodeS} (hd : aget T.nodes d = some nd) (f : NodeS → NodeS) {k : Int} (h : ∃ n', aget T.nodes k = some n') : ∃ n', aget (updN T d f).nodes k = some n' := by
  rw [updN_get hd]
  split
  · exact ⟨_, rfl⟩
  · exact h

/-- a file is turned, its names are not -/
theorem TreeS.InvD.file {T : TreeS} {δ : Int → Int} (h : T.InvD δ) {d : Int} {nd : NodeS} (hd : aget T.nodes d = some nd) (hf : nd.dir = false) (f : NodeS → NodeS) (c : Int) (f1 : (f nd).dir = false) (f2 : (f nd).kids = []) (f3 : (f nd).links = nd.links + c) (f4 : (f nd).data.length ≤ 3500) :
    (updN T d f).InvD fun i => if i = d then δ i + c else δ i := by
  have hk := (h.files d nd hd hf).1
  have hr : ∀ i, (updN T d f).refs i = T.refs i := by
    intro i
    have := refs_upd h.keys hd f i
    rw [hk, f2] at this
    omega
  refine ⟨updN_keys h.keys d f, ?_, ?_, ?_, by rw [hr]; exact h.rootno, ?_, ?_, ?_, ?_⟩
  · intro i m hi
    rcases updN_cases hd f hi with ⟨rfl, rfl⟩ | ⟨_, hi⟩
    · rw [f2]; exact .nil
    · exact h.kkeys i m hi
  · obtain ⟨r, hr1, hr2⟩ := h.root
    have : d ≠ 1 := by intro e; subst e; rw [hd] at hr1; cases hr1; rw [hf] at hr2; cases hr2
    rw [updN_get hd, if_neg this]
    exact ⟨r, hr1, hr2⟩
  · intro i m s k hi hk2
    rcases updN_cases hd f hi with ⟨rfl, rfl⟩ | ⟨_, hi⟩
    · rw [f2] at hk2; simp [aget] at hk2
    · exact updN_some hd f (h.kids i m s k hi hk2)
  · intro i m hi hm
    rcases updN_cases hd f hi with ⟨rfl, rfl⟩ | ⟨_, hi⟩
    · rw [f1] at hm; cases hm
    · rw [hr]; exact h.dirs i m hi hm
  · intro i m hi hm
    rw [hr]
    rcases updN_cases hd f hi with ⟨rfl, rfl⟩ | ⟨hne, hi⟩
    · refine ⟨f2, ?_⟩
      rw [if_pos rfl, f3, (h.files i nd hd hf).2]; omega
    · rw [if_neg hne]; exact h.files i m hi hm
  · intro i m hi
    rw [(updN_next T d f).1]
    rcases updN_cases hd f hi with ⟨rfl, rfl⟩ | ⟨_, hi⟩
    · exact h.fresh i nd hd
    · exact h.fresh i m hi
  · intro i m hi
    rcases updN_cases hd f hi with ⟨rfl, rfl⟩ | ⟨_, hi⟩
    · exact f4
    · exact h.data i m hi
/-- a directory's names are turned -/
theorem TreeS.InvD.names {T : TreeS} {δ : Int → Int} (h : T.InvD δ) {d : Int} {nd : NodeS} (hd : aget T.nodes d = some nd) (hf : nd.dir = true) (f : NodeS → NodeS) (f1 : (f nd).dir = true) (f3 : (f nd).links = nd.links) (f4 : (f nd).data = nd.data)
    (k1 : ((f nd).kids.map Prod.fst).Nodup) (k2 : ∀ s k, aget (f nd).kids s = some k → ∃ n', aget T.nodes k = some n') (k3 : ∀ x, (x = 1 ∨ ∃ m, aget T.nodes x = some m ∧ m.dir = true) → cnt x (f nd).kids = cnt x nd.kids) :
    (updN T d f).InvD fun x => δ x + cnt x nd.kids - cnt x (f nd).kids := by
  have hr : ∀ i, (updN T d f).refs i + cnt i nd.kids = T.refs i + cnt i (f nd).kids := refs_upd h.keys hd f
  refine ⟨updN_keys h.keys d f, ?_, ?_, ?_, ?_, ?_, ?_, ?_, ?_⟩
  · intro i m hi
    rcases updN_cases hd f hi with ⟨rfl, rfl⟩ | ⟨_, hi⟩
    · exact k1
    · exact h.kkeys i m hi
  · obtain ⟨r, hr1, hr2⟩ := h.root
    rw [updN_get hd]
    split
    · exact ⟨_, rfl, f1⟩
    · exact ⟨r, hr1, hr2⟩
  · intro i m s k hi hk2
    rcases updN_cases hd f hi with ⟨rfl, rfl⟩ | ⟨_, hi⟩
    · exact updN_some hd f (k2 s k hk2)
    · exact updN_some hd f (h.kids i m s k hi hk2)
  · have h1 := hr 1
    have h2 := h.rootno
    have h3 := k3 1 (.inl rfl)
    omega
  · intro i m hi hm
    have key : ∀ m0, aget T.nodes i = some m0 → m0.dir = true → (updN T d f).refs i = T.refs i := by
      intro m0 h0 h0d
      have h1 := hr i
      have h3 := k3 i (.inr ⟨m0, h0, h0d⟩)
      omega
    rcases updN_cases hd f hi with ⟨rfl, rfl⟩ | ⟨_, hi⟩
    · have := h.dirs i nd hd hf
      rw [key nd hd hf, f3]; exact this
    · rw [key m hi hm]; exact h.dirs i m hi hm
  · intro i m hi hm
    rcases updN_cases hd f hi with ⟨rfl, rfl⟩ | ⟨hne, hi⟩
    · rw [f1] at hm; cases hm
    · have h1 := hr i
      have h2 := h.files i m hi hm
      refine ⟨h2.1, ?_⟩
      rw [h2.2]; omega
  · intro i m hi
    rw [(updN_next T d f).1]
    rcases updN_cases hd f hi with ⟨rfl, rfl⟩ | ⟨_, hi⟩
    · exact h.fresh i nd hd
    · exact h.fresh i m hi
  · intro i m hi
    rcases updN_cases hd f hi with ⟨rfl, rfl⟩ | ⟨_, hi⟩
    · rw [f4]; exact h.data i nd hd
    · exact h.data i m hi
theorem TreeS.InvD.congr {T : TreeS} {δ δ' : Int → Int} (h : T.InvD δ) (e : ∀ x, δ x = δ' x) : T.InvD δ' := by
  have : δ = δ' := funext e
  rw [← this]; exact h

theorem TreeS.InvD.notdir {T : TreeS} {δ : Int → Int} (h : T.InvD δ) {i : Int} {ni : NodeS} (hi : aget T.nodes i = some ni) (hf : ni.dir = false) {x : Int} (hx : x = 1 ∨ ∃ m, aget T.nodes x = some m ∧ m.dir = true) : x ≠ i := by
  rintro rfl
  rcases hx with rfl | ⟨m, h1, h2⟩
  · obtain ⟨r, hr1, hr2⟩ := h.root
    rw [hi] at hr1; cases hr1; rw [hf] at hr2; cases hr2
  · rw [hi] at h1; cases h1; rw [hf] at h2; cases h2

theorem TreeS.InvD.noKid {T : TreeS} {δ : Int → Int} (h : T.InvD δ) {d : Int} {nd : NodeS} (hd : aget T.nodes d = some nd) (hdir : nd.dir = true) {s : Bytes} {i : Int} (hk : aget nd.kids s = some i) {ni : NodeS} (hi : aget T.nodes i = some ni) (hf : ni.dir = false) :
    (updN T d (Go.Proofs.YtnfomoeicgdkkaaGreatDoor.noKid s)).InvD fun x => δ x + if i = x then 1 else 0 := by
  have hc : ∀ x, cnt x nd.kids = cnt x (adel nd.kids s) + if i = x then 1 else 0 := by
    intro x
    have := cnt_del (h.kkeys d nd hd) s (i := x)
    rw [hk] at this
    simpa using this
  refine (h.names hd hdir (Go.Proofs.YtnfomoeicgdkkaaGreatDoor.noKid s) hdir rfl rfl (adel_nodup (h.kkeys d nd hd) s) ?_ ?_).congr ?_
  · intro s' k hk'
    have e : aget (adel nd.kids s) s' = some k := hk'
    rw [aget_adel] at e
    split at e
    · cases e
    · exact h.kids d nd s' k hd e
  · intro x hx
    have := h.notdir hi hf hx
    have h2 := hc x
    rw [if_neg (fun e => this e.symm)] at h2
    exact h2.symm
  · intro x
    show δ x + cnt x nd.kids - cnt x (adel nd.kids s) = _
    have := hc x
    split <;> simp_all <;> omega

theorem TreeS.InvD.putKid {T : TreeS} {δ : Int → Int} (h : T.InvD δ) {d : Int} {nd : NodeS} (hd : aget T.nodes d = some nd) (hdir : nd.dir = true) {s : Bytes} {i : Int} (hold : ∀ j, aget nd.kids s = some j → ∃ nj, aget T.nodes j = some nj ∧ nj.dir = false) {ni : NodeS} (hi : aget T.nodes i = some ni) (hf : ni.dir = false) :
    (updN T d (Go.Proofs.YtnfomoeicgdkkaaGreatDoor.putKid s i)).InvD fun x => δ x + (if aget nd.kids s = some x then 1 else 0) - (if i = x then 1 else 0) := by
  have hc : ∀ x, cnt x (aput nd.kids s i) + (if aget nd.kids s = some x then 1 else 0) = cnt x nd.kids + if i = x then 1 else 0 := fun x => cnt_put (h.kkeys d nd hd) s i
  refine (h.names hd hdir (Go.Proofs.YtnfomoeicgdkkaaGreatDoor.putKid s i) hdir rfl rfl (aput_nodup (h.kkeys d nd hd) s i) ?_ ?_).congr ?_
  · intro s' k hk'
    have e : aget (aput nd.kids s i) s' = some k := hk'
    rw [aget_aput] at e
    split at e
    · cases e; exact ⟨ni, hi⟩
    · exact h.kids d nd s' k hd e
  · intro x hx
    have h1 := h.notdir hi hf hx
    have h2 := hc x
    have h4 : ¬ i = x := fun e => h1 e.symm
    have h3 : ¬ aget nd.kids s = some x := by
      intro e
      obtain ⟨nj, hj1, hj2⟩ := hold x e
      exact h.notdir hj1 hj2 hx rfl
    rw [if_neg h3, if_neg h4] at h2
    exact h2
  · intro x
    show δ x + cnt x nd.kids - cnt x (aput nd.kids s i) = _
    have := hc x
    split at this <;> split at this <;> simp_all <;> omega
end Go.Proofs.YtnfomoeicgdkkaaGreatDoor

/- The invariant is kept by what is done to files. -/
set_option linter.unusedSimpArgs false
set_option linter.unusedVariables false
namespace Go.Proofs.YtnfomoeicgdkkaaGreatDoor

theorem kidAt_some {T : TreeS} (h : T.Inv) {d : Int} {nd : NodeS} (hd : aget T.nodes d = some nd) {s : Bytes} (h0 : kidAt T d s ≠ 0) : aget nd.kids s = some (kidAt T d s) := by
  unfold kidAt at h0
  rw [hd] at h0
  simp only [Option.map_some, Option.getD_some] at h0
  unfold kidOf at h0
  cases hg : aget nd.kids s with
  | none => rw [hg] at h0; exact absurd rfl h0
  | some k =>
    unfold kidAt
    rw [hd]
    simp only [Option.map_some, Option.getD_some]
    unfold kidOf
    rw [hg]; rfl
theorem kidAt_none {T : TreeS} (h : T.Inv) {d : Int} {nd : NodeS} (hd : aget T.nodes d = some nd) {s : Bytes} (h0 : kidAt T d s = 0) : aget nd.kids s = none := by
  unfold kidAt at h0
  rw [hd] at h0
  simp only [Option.map_some, Option.getD_some] at h0
  unfold kidOf at h0
  cases hg : aget nd.kids s with
  | none => rfl
  | some k =>
    rw [hg] at h0
    obtain ⟨n', hn'⟩ := h.kids d nd s k hd hg
    have := (h.fresh k n' hn').1
    simp at h0
    omega

theorem unlink_inv {T : TreeS} (h : T.Inv) {d i : Int} {nd ni : NodeS} {s : Bytes} (hd : aget T.nodes d = some nd) (hdir : nd.dir = true) (hs : aget nd.kids s = some i) (hi : aget T.nodes i = some ni) (hf : ni.dir = false) : (updN (updN T d (noKid s)) i decL).Inv := by
  have hne : i ≠ d := by intro e; subst e; rw [hi] at hd; cases hd; rw [hf] at hdir; cases hdir
  have h1 := h.d.noKid hd hdir hs hi hf
  have hi1 : aget (updN T d (noKid s)).nodes i = some ni := by rw [updN_get hd, if_neg (fun e => hne e.symm)]; exact hi
  have h2 := h1.file hi1 hf decL (-1) hf (h.files i ni hi hf).1 (by simp [decL]; omega) (h.data i ni hi)
  refine h2.inv fun x n hx hn => ?_
  by_cases e : x = i
  · rw [if_pos e, if_pos e.symm]; omega
  · rw [if_neg e, if_neg (fun e2 => e e2.symm)]; omega

theorem written_inv {T : TreeS} (h : T.Inv) {i : Int} {ni : NodeS} {data : Bytes} (hi : aget T.nodes i = some ni) (hf : ni.dir = false) (hdl : data.length ≤ 3500) : (updN T i (written data)).Inv := by
  have h2 := h.d.file hi hf (written data) 0 rfl rfl (by simp [written]) hdl
  refine h2.inv fun x n hx hn => ?_
  split <;> rfl

theorem link_inv {T : TreeS} (h : T.Inv) {e i : Int} {ne ni : NodeS} {s : Bytes} (he : aget T.nodes e = some ne) (hdir : ne.dir = true) (hs : aget ne.kids s = none) (hi : aget T.nodes i = some ni) (hf : ni.dir = false) : (updN (updN T i incL) e (putKid s i)).Inv := by
  have hne : i ≠ e := by intro x; subst x; rw [hi] at he; cases he; rw [hf] at hdir; cases hdir
  have h1 := h.d.file hi hf incL 1 hf (h.files i ni hi hf).1 rfl (h.data i ni hi)
  have he1 : aget (updN T i incL).nodes e = some ne := by rw [updN_get hi, if_neg hne]; exact he
  have hi1 : aget (updN T i incL).nodes i = some (incL ni) := by rw [updN_get hi, if_pos rfl]
  have h2 := h1.putKid he1 hdir (s := s) (i := i) (by rw [hs]; intro j hj; cases hj) hi1 hf
  refine h2.inv fun x n hx hn => ?_
  rw [hs]
  simp only [reduceCtorEq, if_false]
  by_cases e : x = i
  · rw [if_pos e, if_pos e.symm]; omega
  · rw [if_neg e, if_neg (fun e2 => e e2.symm)]; omega
/-- where a directory's name went, what a directory has -/
theorem after_noKid {T : TreeS} {d e : Int} {nd ne : NodeS} {s last : Bytes} (hd : aget T.nodes d = some nd) (hdir : nd.dir = true) (he : aget T.nodes e = some ne) (hed : ne.dir = true) :
    ∃ n2, aget (updN T d (noKid s)).nodes e = some n2 ∧ n2.dir = true ∧ aget n2.kids last = if d = e ∧ s = last then none else aget ne.kids last := by
  rw [updN_get hd]
  by_cases h : d = e
  · subst h
    rw [hd] at he
    cases he
    refine ⟨_, if_pos rfl, hdir, ?_⟩
    show aget (adel nd.kids s) last = _
    rw [aget_adel]
    by_cases h2 : s = last
    · rw [if_pos h2, if_pos ⟨rfl, h2⟩]
    · rw [if_neg h2, if_neg (fun x => h2 x.2)]
  · exact ⟨ne, by rw [if_neg h]; exact he, hed, by rw [if_neg (fun x => h x.1)]⟩

theorem rename_inv0 {T : TreeS} (h : T.Inv) {d e i : Int} {nd ne ni : NodeS} {s last : Bytes} (hd : aget T.nodes d = some nd) (hdir : nd.dir = true) (hs : aget nd.kids s = some i) (he : aget T.nodes e = some ne) (hed : ne.dir = true) (hl : aget ne.kids last = none) (hi : aget T.nodes i = some ni) (hf : ni.dir = false) :
    (updN (updN T d (noKid s)) e (putKid last i)).Inv := by
  have hne : d ≠ i := by intro x; subst x; rw [hi] at hd; cases hd; rw [hf] at hdir; cases hdir
  have h1 := h.d.noKid hd hdir hs hi hf
  obtain ⟨n2, hn2, hd2, hk2⟩ := after_noKid (s := s) (last := last) hd hdir he hed
  have hk3 : aget n2.kids last = none := by rw [hk2, hl]; split <;> rfl
  have hi1 : aget (updN T d (noKid s)).nodes i = some ni := by rw [updN_get hd, if_neg hne]; exact hi
  have h2 := h1.putKid hn2 hd2 (s := last) (i := i) (by rw [hk3]; intro j hj; cases hj) hi1 hf
  refine h2.inv fun x n hx hn => ?_
  rw [hk3]
  simp only [reduceCtorEq, if_false]
  omega

theorem rename_inv1 {T : TreeS} (h : T.Inv) {d e i j : Int} {nd ne ni nj : NodeS} {s last : Bytes} (hd : aget T.nodes d = some nd) (hdir : nd.dir = true) (hs : aget nd.kids s = some i) (he : aget T.nodes e = some ne) (hed : ne.dir = true) (hl : aget ne.kids last = some j) (hi : aget T.nodes i = some ni) (hf : ni.dir = false)
    (hj : aget T.nodes j = some nj) (hjf : nj.dir = false) (hji : j ≠ i) : (updN (updN (updN T j decL) d (noKid s)) e (putKid last i)).Inv := by
  have hdj : j ≠ d := by intro x; subst x; rw [hj] at hd; cases hd; rw [hjf] at hdir; cases hdir
  have hej : j ≠ e := by intro x; subst x; rw [hj] at he; cases he; rw [hjf] at hed; cases hed
  have hne : d ≠ i := by intro x; subst x; rw [hi] at hd; cases hd; rw [hf] at hdir; cases hdir
  have h0 := h.d.file hj hjf decL (-1) hjf (h.files j nj hj hjf).1 (by simp [decL]; omega) (h.data j nj hj)
  have hd0 : aget (updN T j decL).nodes d = some nd := by rw [updN_get hj, if_neg hdj]; exact hd
  have he0 : aget (updN T j decL).nodes e = some ne := by rw [updN_get hj, if_neg hej]; exact he
  have hi0 : aget (updN T j decL).nodes i = some ni := by rw [updN_get hj, if_neg hji]; exact hi
  have hj0 : aget (updN T j decL).nodes j = some (decL nj) := by rw [updN_get hj, if_pos rfl]
  have h1 := h0.noKid hd0 hdir hs hi0 hf
  obtain ⟨n2, hn2, hd2, hk2⟩ := after_noKid (s := s) (last := last) hd0 hdir he0 hed
  have hnot : ¬ (d = e ∧ s = last) := by
    rintro ⟨rfl, rfl⟩
    rw [hd] at he; cases he
    rw [hs] at hl; cases hl
    exact hji rfl
  rw [if_neg hnot, hl] at hk2
  have hi1 : aget (updN (updN T j decL) d (noKid s)).nodes i = some ni := by rw [updN_get hd0, if_neg hne]; exact hi0
  have hj1 : aget (updN (updN T j decL) d (noKid s)).nodes j = some (decL nj) := by rw [updN_get hd0, if_neg (fun x => hdj x.symm)]; exact hj0
  have h2 := h1.putKid hn2 hd2 (s := last) (i := i) (by rw [hk2]; intro k hk; cases hk; exact ⟨_, hj1, hjf⟩) hi1 hf
  refine h2.inv fun x n hx hn => ?_
  rw [hk2]
  simp only [Option.some.injEq]
  by_cases e1 : x = j
  · rw [if_pos e1, if_pos e1.symm]; omega
  · have e2 : ¬ j = x := fun y => e1 y.symm
    rw [if_neg e1, if_neg e2]; omega
end Go.Proofs.YtnfomoeicgdkkaaGreatDoor

/- The invariant is kept by what is done to a file. -/
set_option linter.unusedSimpArgs false
set_option linter.unusedVariables false
namespace Go.Proofs.YtnfomoeicgdkkaaGreatDoor

theorem fileT_inv {T : TreeS} (h : T.Inv) {N : Nat} (few : T.Few N) {kind : Int} {tgt data : Bytes} (hdl : data.length ≤ 3500) {d i : Int} {nd ni : NodeS} {s : Bytes} (hd : aget T.nodes d = some nd) (hdir : nd.dir = true) (hs : aget nd.kids s = some i)
    (hi : aget T.nodes i = some ni) (hf : ni.dir = false) : (fileT T kind tgt data d s i).2.Inv := by
  have hpd : ∀ d s, T.place tgt = (d, s, 0) → ∃ n, aget T.nodes d = some n ∧ n.dir = true := fun d s h2 => place_dir (h.ok few) h2
  unfold fileT
  split
  · exact written_inv h hi hf hdl
  · split
    · exact unlink_inv h hd hdir hs hi hf
    · generalize T.place tgt = pl at *
      obtain ⟨e, last, err⟩ := pl
      dsimp only
      split
      · exact h
      · rename_i he0
        obtain ⟨ne, he, hed⟩ := hpd e last (by simp at he0; rw [he0])
        split
        · exact h
        · rename_i h9
          split
          · exact h
          · rename_i h10
            split
            · exact h
            · rename_i hji
              split
              · rename_i h4
                have hj0 : kidAt T e last = 0 := Classical.byContradiction fun x => h9 ⟨h4, x⟩
                exact link_inv h he hed (kidAt_none h he hj0) hi hf
              · by_cases hj0 : kidAt T e last = 0
                · rw [if_neg (by simpa using hj0)]
                  exact rename_inv0 h hd hdir hs he hed (kidAt_none h he hj0) hi hf
                · rw [if_pos hj0]
                  have hl := kidAt_some h he hj0
                  obtain ⟨nj, hj⟩ := h.kids e ne last _ he hl
                  have hjf : nj.dir = false := by
                    have : dirAt T (kidAt T e last) = nj.dir := by unfold dirAt; rw [hj]; rfl
                    cases hx : nj.dir with
                    | false => rfl
                    | true => exact absurd ⟨hj0, by rw [this, hx]⟩ h10
                  exact rename_inv1 h hd hdir hs he hed hl hi hf hj hjf hji
end Go.Proofs.YtnfomoeicgdkkaaGreatDoor

/- The invariant is kept where a directory goes. -/
set_option linter.unusedSimpArgs false
set_option linter.unusedVariables false
namespace Go.Proofs.YtnfomoeicgdkkaaGreatDoor

theorem rmAt_inv {T : TreeS} (h : T.Inv) {d i : Int} {nd ni : NodeS} {s : Bytes} (hd : aget T.nodes d = some nd) (hdir : nd.dir = true) (hs : aget nd.kids s = some i) (hi : aget T.nodes i = some ni) (hid : ni.dir = true) (hk : ni.kids = []) : (rmAt T d s i).Inv := by
  have hdi : d ≠ i := by intro x; subst x; rw [hd] at hi; cases hi; rw [hk] at hs; simp [aget] at hs
  have hi1 : i ≠ 1 := by
    intro x
    subst x
    have h1 := refs_pos h.keys hd hs
    have h2 := h.rootno
    omega
  have hr1 : ∀ x, (updN T d (noKid s)).refs x + (if i = x then 1 else 0) = T.refs x := by
    intro x
    have h1 := refs_upd h.keys hd (noKid s) x
    have h2 := cnt_del (h.kkeys d nd hd) s (i := x)
    rw [hs] at h2
    simp only [Option.some.injEq] at h2
    have h3 : (noKid s nd).kids = adel nd.kids s := rfl
    rw [h3] at h1
    omega
  have hi2 : aget (updN T d (noKid s)).nodes i = some ni := by rw [updN_get hd, if_neg hdi]; exact hi
  have k1 := updN_keys h.keys d (noKid s)
  have hr2 : ∀ x, (rmAt T d s i).refs x + (if i = x then 1 else 0) = T.refs x := by
    intro x
    rw [← hr1 x]
    have h1 := refs_del k1 hi2 x
    rw [hk] at h1
    have h2 : cnt x ([] : List (Bytes × Int)) = 0 := rfl
    have h3 : (rmAt T d s i).refs x = refsL x (adel (updN T d (noKid s)).nodes i) := rfl
    omega
  have hri := (h.dirs i ni hi hid).2 hi1
  have hget : ∀ {x m}, aget (rmAt T d s i).nodes x = some m → x ≠ i ∧ ((x = d ∧ m = noKid s nd) ∨ (x ≠ d ∧ aget T.nodes x = some m)) := by
    intro x m hx
    have e : aget (adel (updN T d (noKid s)).nodes i) x = some m := hx
    rw [aget_adel] at e
    split at e
    · cases e
    · rename_i hne
      exact ⟨fun y => hne y.symm, updN_cases hd _ e⟩
  have hput : ∀ {x}, x ≠ i → (∃ n', aget T.nodes x = some n') → ∃ n', aget (rmAt T d s i).nodes x = some n' := by
    intro x hx he
    have e : aget (rmAt T d s i).nodes x = aget (updN T d (noKid s)).nodes x := by
      show aget (adel (updN T d (noKid s)).nodes i) x = _
      rw [aget_adel, if_neg (fun y => hx y.symm)]
    rw [e]
    exact updN_some hd _ he
  have hkid : ∀ {x m s' k}, aget (rmAt T d s i).nodes x = some m → aget m.kids s' = some k → k ≠ i := by
    intro x m s' k hx hk2 e
    subst e
    have e2 : aget (updN T d (noKid s)).nodes x = some m := by
      have e3 : aget (adel (updN T d (noKid s)).nodes k) x = some m := hx
      rw [aget_adel] at e3
      split at e3
      · cases e3
      · exact e3
    have h1 := refs_pos k1 e2 hk2
    have h2 := hr1 k
    rw [if_pos rfl] at h2
    omega
  refine ⟨adel_nodup k1 i, ?_, ?_, ?_, ?_, ?_, ?_, ?_, ?_⟩
  · intro x m hx
    rcases (hget hx).2 with ⟨rfl, rfl⟩ | ⟨_, hx⟩
    · exact adel_nodup (h.kkeys x nd hd) s
    · exact h.kkeys x m hx
  · obtain ⟨r, hr1', hr2'⟩ := h.root
    show ∃ n, aget (adel (updN T d (noKid s)).nodes i) 1 = some n ∧ n.dir = true
    rw [aget_adel, if_neg hi1, updN_get hd]
    split
    · exact ⟨_, rfl, hdir⟩
    · exact ⟨r, hr1', hr2'⟩
  · intro x m s' k hx hk2
    refine hput (hkid hx hk2) ?_
    rcases (hget hx).2 with ⟨rfl, rfl⟩ | ⟨_, hx⟩
    · have e : aget (adel nd.kids s) s' = some k := hk2
      rw [aget_adel] at e
      split at e
      · cases e
      · exact h.kids x nd s' k hd e
    · exact h.kids x m s' k hx hk2
  · have := hr2 1
    rw [if_neg hi1, h.rootno] at this
    omega
  · intro x m hx hm
    obtain ⟨hxi, hx⟩ := hget hx
    have h2 := hr2 x
    rw [if_neg (fun y => hxi y.symm)] at h2
    rcases hx with ⟨rfl, rfl⟩ | ⟨_, hx⟩
    · have := h.dirs x nd hd hdir
      exact ⟨this.1, fun y => by have := this.2 y; omega⟩
    · have := h.dirs x m hx hm
      exact ⟨this.1, fun y => by have := this.2 y; omega⟩
  · intro x m hx hm
    obtain ⟨hxi, hx⟩ := hget hx
    have h2 := hr2 x
    rw [if_neg (fun y => hxi y.symm)] at h2
    rcases hx with ⟨rfl, rfl⟩ | ⟨_, hx⟩
    · have e : nd.dir = false := hm
      rw [hdir] at e; cases e
    · have := h.files x m hx hm
      exact ⟨this.1, by rw [this.2]; omega⟩
  · intro x m hx
    show 1 ≤ x ∧ x < (updN T d (noKid s)).next
    rw [(updN_next T d (noKid s)).1]
    rcases (hget hx).2 with ⟨rfl, rfl⟩ | ⟨_, hx⟩
    · exact h.fresh x nd hd
    · exact h.fresh x m hx
  · intro x m hx
    rcases (hget hx).2 with ⟨rfl, rfl⟩ | ⟨_, hx⟩
    · exact h.data x nd hd
    · exact h.data x m hx
end Go.Proofs.YtnfomoeicgdkkaaGreatDoor

/- The invariant is kept by an operation. -/
set_option linter.unusedSimpArgs false
set_option linter.unusedVariables false
namespace Go.Proofs.YtnfomoeicgdkkaaGreatDoor

theorem stepT_inv {T : TreeS} (h : T.Inv) {N : Nat} (few : T.Few N) (o : OpS) : (stepT T o).2.Inv := by
  have hpd : ∀ d s, T.place o.path = (d, s, 0) → ∃ n, aget T.nodes d = some n ∧ n.dir = true := fun d s h2 => place_dir (h.ok few) h2
  unfold stepT
  split
  · exact h
  generalize T.place o.path = pl at *
  obtain ⟨d, s, err⟩ := pl
  dsimp only
  split
  · exact h
  rename_i he0
  obtain ⟨nd, hd, hdir⟩ := hpd d s (by simp at he0; rw [he0])
  split
  · exact h
  rename_i hl
  split
  · split
    · exact h
    · rename_i hk
      have hs := kidAt_none h hd (s := s) (by simpa using hk)
      have e : ∀ n, mkAt T d s n = mkT T d nd s n := fun n => by unfold mkAt; rw [hd]
      rw [e]
      refine mkT_inv h hd hdir hs ?_ ?_ ?_
      · split <;> rfl
      · split <;> rfl
      · split
        · simp
        · dsimp only; omega
  · split
    · exact h
    · rename_i hk
      have hs := kidAt_some h hd hk
      obtain ⟨ni, hi⟩ := h.kids d nd s _ hd hs
      have hdi : dirAt T (kidAt T d s) = ni.dir := by unfold dirAt; rw [hi]; rfl
      have hnk : noKids T (kidAt T d s) = decide (ni.kids = []) := by unfold noKids; rw [hi]; rfl
      rw [hdi, hnk]
      split
      · split
        · exact h
        · rename_i hx
          split
          · exact h
          · rename_i hy
            exact rmAt_inv h hd hdir hs hi (by simpa using hx) (by simpa using hy)
      · split
        · exact h
        · rename_i hx
          exact fileT_inv h few (by omega) hd hdir hs hi (by simpa using hx)
end Go.Proofs.YtnfomoeicgdkkaaGreatDoor

/- The invariant is kept where a loose file goes. -/
set_option linter.unusedSimpArgs false
set_option linter.unusedVariables false
namespace Go.Proofs.YtnfomoeicgdkkaaGreatDoor

theorem reap1_inv {T : TreeS} (h : T.Inv) (i : Int) : (reap1 T i).Inv := by
  unfold reap1
  split
  · rename_i hlo
    unfold looseAt at hlo
    cases hi : aget T.nodes i with
    | none => rw [hi] at hlo; simp at hlo
    | some ni =>
      rw [hi] at hlo
      have hl : ni.links = 0 := by simpa using hlo
      have hf : ni.dir = false := by
        cases hd : ni.dir with
        | false => rfl
        | true => have := (h.dirs i ni hi hd).1; omega
      have hk := (h.files i ni hi hf).1
      have hr0 : T.refs i = 0 := by have := (h.files i ni hi hf).2; omega
      have hr : ∀ x, TreeS.refs { T with nodes := adel T.nodes i } x = T.refs x := by
        intro x
        have h1 := refs_del h.keys hi x
        rw [hk] at h1
        have h2 : cnt x ([] : List (Bytes × Int)) = 0 := rfl
        have h3 : TreeS.refs { T with nodes := adel T.nodes i } x = refsL x (adel T.nodes i) := rfl
        omega
      have hget : ∀ {x m}, aget (adel T.nodes i) x = some m → x ≠ i ∧ aget T.nodes x = some m := by
        intro x m hx
        rw [aget_adel] at hx
        split at hx
        · cases hx
        · rename_i e; exact ⟨fun y => e y.symm, hx⟩
      refine ⟨adel_nodup h.keys i, fun x m hx => h.kkeys x m (hget hx).2, ?_, ?_, by rw [hr]; exact h.rootno, ?_, ?_, fun x m hx => h.fresh x m (hget hx).2, fun x m hx => h.data x m (hget hx).2⟩
      · obtain ⟨r, hr1, hr2⟩ := h.root
        refine ⟨r, ?_, hr2⟩
        show aget (adel T.nodes i) 1 = some r
        rw [aget_adel, if_neg]
        · exact hr1
        · intro e; subst e; rw [hi] at hr1; cases hr1; rw [hf] at hr2; cases hr2
      · intro x m s k hx hk2
        have hx2 := (hget hx).2
        have hne : i ≠ k := by
          intro e
          subst e
          have := refs_pos h.keys hx2 hk2
          omega
        show ∃ n', aget (adel T.nodes i) k = some n'
        rw [aget_adel, if_neg hne]
        exact h.kids x m s k hx2 hk2
      · intro x m hx hm
        rw [hr]; exact h.dirs x m (hget hx).2 hm
      · intro x m hx hm
        rw [hr]; exact h.files x m (hget hx).2 hm
  · exact h

theorem reapAll_inv : ∀ (ids : List Int) {T : TreeS}, T.Inv → (reapAll T ids).Inv
  | [], _, h => h
  | i :: ids, _, h => reapAll_inv ids (reap1_inv h i)
end Go.Proofs.YtnfomoeicgdkkaaGreatDoor

/- An operation lets a tree grow by one at most. -/
set_option linter.unusedSimpArgs false
set_option linter.unusedVariables false
namespace Go.Proofs.YtnfomoeicgdkkaaGreatDoor

structure Grow (T T' : TreeS) (c : Nat) : Prop where
  keys : (T'.nodes.map Prod.fst).Nodup
  len : T'.nodes.length ≤ T.nodes.length + c
  next : T.next ≤ T'.next ∧ T'.next ≤ T.next + c
  refs : ∀ i, T'.refs i ≤ T.refs i + c
  quota : T'.quota = T.quota

theorem Grow.refl {T : TreeS} (nd : (T.nodes.map Prod.fst).Nodup) (c : Nat) : Grow T T c := ⟨nd, by omega, by omega, fun i => by omega, rfl⟩
theorem Grow.trans {A B C : TreeS} {a b : Nat} (h : Grow A B a) (k : Grow B C b) : Grow A C (a + b) :=
  ⟨k.keys, by have := h.len; have := k.len; omega, by have := h.next; have := k.next; omega, fun i => by have := h.refs i; have := k.refs i; omega, k.quota.trans h.quota⟩
theorem Grow.mono {A B : TreeS} {a b : Nat} (h : Grow A B a) (e : a ≤ b) : Grow A B b :=
  ⟨h.keys, by have := h.len; omega, by have := h.next; omega, fun i => by have := h.refs i; omega, h.quota⟩

theorem TreeS.Few.grow {T T' : TreeS} {N c : Nat} (f : T.Few N) (g : Grow T T' c) (h : N + c ≤ 1000000000) : T'.Few (N + c) :=
  ⟨by have := f.len; have := g.len; omega, by have := f.next; have := g.next; omega, fun i => by have := f.refs i; have := g.refs i; omega, by have := f.one; omega, h⟩

theorem adel_len {K V : Type} [DecidableEq K] (m : List (K × V)) (k : K) : (adel m k).length ≤ m.length := List.length_filter_le _ _
theorem cnt_adel_le (i : Int) (a : List (Bytes × Int)) (s : Bytes) : cnt i (adel a s) ≤ cnt i a := by
  unfold cnt adel
  exact ((List.filter_sublist (l := a)).map Prod.snd).count_le i
theorem refsL_adel_le (i k : Int) (m : List (Int × NodeS)) : refsL i (adel m k) ≤ refsL i m := by
  induction m with
  | nil => exact Nat.le_refl _
  | cons x m ih =>
    unfold adel at ih ⊢
    rw [List.filter_cons]
    split
    · rw [refsL_cons, refsL_cons]; omega
    · rw [refsL_cons]; omega

theorem updN_grow {T : TreeS} (nd : (T.nodes.map Prod.fst).Nodup) (d : Int) (f : NodeS → NodeS) (c : Nat) (h : ∀ n i, cnt i (f n).kids ≤ cnt i n.kids + c) : Grow T (updN T d f) c := by
  refine ⟨updN_keys nd d f, ?_, by rw [(updN_next T d f).1]; omega, fun i => ?_, (updN_next T d f).2⟩
  · unfold updN
    cases hd : aget T.nodes d with
    | none => dsimp only; omega
    | some n =>
      dsimp only
      have := (perm_adel nd (aget_mem hd)).length_eq
      unfold aput
      simp only [List.length_cons] at this ⊢
      omega
  · cases hd : aget T.nodes d with
    | none =>
      have : updN T d f = T := by unfold updN; rw [hd]
      rw [this]; omega
    | some n =>
      have h1 := refs_upd nd hd f i
      have h2 := h n i
      omega

theorem noKid_grow {T : TreeS} (nd : (T.nodes.map Prod.fst).Nodup) (d : Int) (s : Bytes) : Grow T (updN T d (noKid s)) 0 := updN_grow nd d _ 0 fun n i => cnt_adel_le i n.kids s
theorem putKid_grow {T : TreeS} (nd : (T.nodes.map Prod.fst).Nodup) (d : Int) (s : Bytes) (k : Int) : Grow T (updN T d (putKid s k)) 1 := updN_grow nd d _ 1 fun n i => by
  show cnt i (aput n.kids s k) ≤ _
  unfold aput
  rw [cnt_cons]
  have := cnt_adel_le i n.kids s
  split <;> omega
theorem incL_grow {T : TreeS} (nd : (T.nodes.map Prod.fst).Nodup) (d : Int) : Grow T (updN T d incL) 0 := updN_grow nd d _ 0 fun n i => Nat.le_refl _
theorem decL_grow {T : TreeS} (nd : (T.nodes.map Prod.fst).Nodup) (d : Int) : Grow T (updN T d decL) 0 := updN_grow nd d _ 0 fun n i => Nat.le_refl _
theorem written_grow {T : TreeS} (nd : (T.nodes.map Prod.fst).Nodup) (d : Int) (data : Bytes) : Grow T (updN T d (written data)) 0 := updN_grow nd d _ 0 fun n i => by
  show cnt i [] ≤ _
  exact Nat.zero_le _

theorem adel_grow {T : TreeS} (nd : (T.nodes.map Prod.fst).Nodup) (i : Int) : Grow T { T with nodes := adel T.nodes i } 0 :=
  ⟨adel_nodup nd i, adel_len _ _, by dsimp only; omega, fun k => refsL_adel_le k i T.nodes, rfl⟩

theorem mkT_grow {T : TreeS} (nd : (T.nodes.map Prod.fst).Nodup) (d : Int) (s : Bytes) {n : NodeS} (hn : n.kids = []) (hfr : ∀ i m, aget T.nodes i = some m → i < T.next) : Grow T (mkAt T d s n) 1 := by
  unfold mkAt
  cases hd : aget T.nodes d with
  | none => exact .refl nd 1
  | some m =>
    dsimp only
    have hp := perm_adel nd (aget_mem hd)
    have hl := hp.length_eq
    refine ⟨?_, ?_, ?_, fun i => ?_, rfl⟩
    · unfold mkT
      rw [List.map_cons, List.map_cons, List.nodup_cons, List.nodup_cons]
      have h1 := hfr d m hd
      refine ⟨?_, ?_, adel_nodup nd d⟩
      · intro hm
        cases hm with
        | head => exact absurd h1 (Int.lt_irrefl _)
        | tail _ hm =>
          obtain ⟨y, hy, e⟩ := List.mem_map.1 hm
          exact adel_not _ _ y hy e
      · intro hm
        obtain ⟨⟨y1, y2⟩, hy, e⟩ := List.mem_map.1 hm
        unfold adel at hy
        have h2 := mem_aget nd (List.mem_filter.1 hy).1
        have h3 := hfr y1 y2 h2
        dsimp only at e
        omega
    · unfold mkT
      simp only [List.length_cons] at hl ⊢
      omega
    · show T.next ≤ T.next + 1 ∧ T.next + 1 ≤ T.next + (1 : Nat)
      omega
    · have h1 := refs_del nd hd i
      have h3 : (mkT T d m s n).refs i = cnt i (aput m.kids s T.next) + (cnt i n.kids + refsL i (adel T.nodes d)) := by
        unfold mkT TreeS.refs
        rw [refsL_cons, refsL_cons]
      have h4 : cnt i n.kids = 0 := by rw [hn]; rfl
      have h5 : cnt i (aput m.kids s T.next) ≤ cnt i m.kids + 1 := by
        unfold aput
        rw [cnt_cons]
        have := cnt_adel_le i m.kids s
        split <;> omega
      omega

theorem fileT_grow {T : TreeS} (nd : (T.nodes.map Prod.fst).Nodup) (kind : Int) (tgt data : Bytes) (d : Int) (s : Bytes) (i : Int) : Grow T (fileT T kind tgt data d s i).2 1 := by
  unfold fileT
  split
  · exact (written_grow nd i data).mono (by omega)
  · split
    · exact ((noKid_grow nd d s).trans (decL_grow (updN_keys nd _ _) i)).mono (by omega)
    · split
      · exact .refl nd 1
      · dsimp only
        split
        · exact .refl nd 1
        · split
          · exact .refl nd 1
          · split
            · exact .refl nd 1
            · split
              · exact (incL_grow nd i).trans (putKid_grow (updN_keys nd _ _) _ _ _)
              · split
                · exact ((decL_grow nd _).trans (noKid_grow (updN_keys nd _ _) d s)).trans (putKid_grow (updN_keys (updN_keys nd _ _) _ _) _ _ _)
                · exact (noKid_grow nd d s).trans (putKid_grow (updN_keys nd _ _) _ _ _)

theorem stepT_grow {T : TreeS} (nd : (T.nodes.map Prod.fst).Nodup) (hfr : ∀ i m, aget T.nodes i = some m → i < T.next) (o : OpS) : Grow T (stepT T o).2 1 := by
  unfold stepT
  split
  · exact .refl nd 1
  split
  · exact .refl nd 1
  split
  · exact .refl nd 1
  split
  · split
    · exact .refl nd 1
    · exact mkT_grow nd _ _ (by split <;> rfl) hfr
  · split
    · exact .refl nd 1
    · split
      · split
        · exact .refl nd 1
        · split
          · exact .refl nd 1
          · unfold rmAt
            exact ((noKid_grow nd _ _).trans (adel_grow (updN_keys nd _ _) _)).mono (by omega)
      · split
        · exact .refl nd 1
        · exact fileT_grow nd _ _ _ _ _ _

theorem TreeS.Inv.grow {T : TreeS} (h : T.Inv) (o : OpS) : Grow T (stepT T o).2 1 := stepT_grow h.keys (fun i n hi => (h.fresh i n hi).2) o

/-- operations, one by one, till one is refused -/
def foldT : TreeS → List OpS → Int × TreeS
  | T, [] => (0, T)
  | T, o :: r => if (stepT T o).1 = 0 then foldT (stepT T o).2 r else stepT T o

/-- all of them, or none -/
def doT (T : TreeS) (ops : List OpS) : Int × TreeS :=
  if (foldT T ops).1 ≠ 0 then ((foldT T ops).1, T) else if 128 < (foldT T ops).2.nodes.length then (7, T) else if T.quota < ((foldT T ops).2.used : Nat) then (13, T) else (0, (foldT T ops).2)

theorem foldT_inv : ∀ (ops : List OpS) {T : TreeS} (_ : T.Inv) {N : Nat} (_ : T.Few N) (_ : N + ops.length ≤ 1000000000), (foldT T ops).2.Inv ∧ Grow T (foldT T ops).2 ops.length := by
  intro ops
  induction ops with
  | nil => intro T h N f _; exact ⟨h, .refl h.keys _⟩
  | cons o r ih =>
    intro T h N f hl
    simp only [List.length_cons] at hl ⊢
    unfold foldT
    have h1 := stepT_inv h f o
    have g1 := h.grow o
    split
    · have h2 := ih h1 (f.grow g1 (by omega)) (by omega)
      exact ⟨h2.1, (g1.trans h2.2).mono (by omega)⟩
    · exact ⟨h1, g1.mono (by omega)⟩

theorem doT_inv {T : TreeS} (h : T.Inv) {N : Nat} (f : T.Few N) {ops : List OpS} (hl : N + ops.length ≤ 1000000000) : (doT T ops).2.Inv ∧ Grow T (doT T ops).2 ops.length := by
  have := foldT_inv ops h f hl
  unfold doT
  split
  · exact ⟨h, .refl h.keys _⟩
  · split
    · exact ⟨h, .refl h.keys _⟩
    · split
      · exact ⟨h, .refl h.keys _⟩
      · exact this

theorem reap1_grow {T : TreeS} (nd : (T.nodes.map Prod.fst).Nodup) (i : Int) : Grow T (reap1 T i) 0 := by
  unfold reap1
  split
  · exact adel_grow nd i
  · exact .refl nd 0
theorem reapAll_grow : ∀ (ids : List Int) {T : TreeS}, (T.nodes.map Prod.fst).Nodup → Grow T (reapAll T ids) 0
  | [], _, nd => .refl nd 0
  | i :: ids, _, nd => (reap1_grow nd i).trans (reapAll_grow ids (reap1_keys nd i))

theorem newT_inv (q : Int) : (newT q).Inv := by
  have h1 : ∀ i n, aget (newT q).nodes i = some n → i = 1 ∧ n = ⟨true, 1, [], []⟩ := by
    intro i n h
    unfold newT at h
    rw [aget_cons] at h
    split at h
    · rename_i e
      cases h
      exact ⟨e.symm, rfl⟩
    · simp [aget] at h
  refine ⟨by simp [newT], ?_, ⟨_, rfl, rfl⟩, ?_, rfl, ?_, ?_, ?_, ?_⟩
  · intro i n h; rw [(h1 i n h).2]; simp
  · intro i n s k h h2; rw [(h1 i n h).2] at h2; simp [aget] at h2
  · intro i n h hd; rw [(h1 i n h).2]; exact ⟨rfl, fun h2 => absurd (h1 i n h).1 h2⟩
  · intro i n h hd; rw [(h1 i n h).2] at hd; cases hd
  · intro i n h; rw [(h1 i n h).1]; simp [newT]
  · intro i n h; rw [(h1 i n h).2]; simp

theorem newT_few (q : Int) : (newT q).Few 2 := by
  refine ⟨by simp [newT], by simp [newT], fun i => ?_, by omega, by omega⟩
  have : (newT q).refs i = 0 := rfl
  omega
end Go.Proofs.YtnfomoeicgdkkaaGreatDoor

/- Operations as bytes, plainly: what is packed is unpacked again. -/
set_option linter.unusedSimpArgs false
set_option linter.unusedVariables false
namespace Go.Proofs.YtnfomoeicgdkkaaGreatDoor

def packOp (o : OpS) : Bytes := le4 o.kind.toNat ++ (raw o.path ++ (raw o.dest ++ raw o.data))
def packOps (ops : List OpS) : Bytes := ops.flatMap packOp

def opRd (R : Rd) : OpS × Rd :=
  (⟨(R.num 6).1, ((R.num 6).2.raw 40).1, (((R.num 6).2.raw 40).2.raw 40).1, ((((R.num 6).2.raw 40).2.raw 40).2.raw 3500).1⟩, ((((R.num 6).2.raw 40).2.raw 40).2.raw 3500).2)

def opsRd : Nat → Rd → List OpS × Rd
  | 0, R => ([], R)
  | n + 1, R => if R.b = [] then ([], R) else ((opRd R).1 :: (opsRd n (opRd R).2).1, (opsRd n (opRd R).2).2)

def unpack (b : Bytes) : List OpS × Int := if (opsRd b.length ⟨b, false⟩).2.done = true then ((opsRd b.length ⟨b, false⟩).1, 0) else ([], 4)

theorem rd_num {n : Nat} (h : n < 4294967296) {most : Int} (hm : (n : Int) ≤ most) (r : Bytes) (bad : Bool) : Rd.num most ⟨le4 n ++ r, bad⟩ = ((n : Int), ⟨r, bad⟩) := rd_le4 h hm r bad

theorem rd_raw {b : Bytes} {most : Int} (hm : (b.length : Int) ≤ most) (h : b.length < 4294967296) (r : Bytes) (bad : Bool) : Rd.raw most ⟨raw b ++ r, bad⟩ = (b, ⟨r, bad⟩) := by
  have e : (⟨raw b ++ r, bad⟩ : Rd) = ⟨le4 b.length ++ (b ++ r), bad⟩ := by unfold raw; rw [List.append_assoc]
  unfold Rd.raw
  rw [e, rd_num h hm]
  dsimp only
  rw [Int.toNat_natCast, if_neg (by simp), List.take_left, List.drop_left]

/-- an operation whose parts are as short as what reads them wants -/
structure OpS.Fit (o : OpS) : Prop where
  kind : 0 ≤ o.kind ∧ o.kind ≤ 6
  path : o.path.length ≤ 40
  dest : o.dest.length ≤ 40
  data : o.data.length ≤ 3500

theorem opRd_pack {o : OpS} (h : o.Fit) (r : Bytes) (bad : Bool) : opRd ⟨packOp o ++ r, bad⟩ = (o, ⟨r, bad⟩) := by
  have h1 := h.kind; have h2 := h.path; have h3 := h.dest; have h4 := h.data
  obtain ⟨k, p, d, x⟩ := o
  dsimp only at h1 h2 h3 h4
  obtain ⟨k, rfl⟩ := Int.eq_ofNat_of_zero_le h1.1
  unfold opRd packOp
  dsimp only
  rw [Int.toNat_natCast]
  simp only [List.append_assoc]
  rw [rd_num (by omega) (by omega)]
  dsimp only
  rw [rd_raw (by omega) (by omega)]
  dsimp only
  rw [rd_raw (by omega) (by omega)]
  dsimp only
  rw [rd_raw (by omega) (by omega)]

theorem packOp_len (o : OpS) : (packOp o).length = 16 + o.path.length + o.dest.length + o.data.length := by
  unfold packOp raw
  simp only [List.length_append, le4_len]
  omega

theorem opsRd_pack : ∀ (ops : List OpS) (_ : ∀ o ∈ ops, o.Fit) (n : Nat), (packOps ops).length ≤ n → opsRd n ⟨packOps ops, false⟩ = (ops, ⟨[], false⟩) := by
  intro ops
  induction ops with
  | nil => intro _ n _; cases n <;> simp [opsRd, packOps]
  | cons o ops ih =>
    intro h n hn
    have e : packOps (o :: ops) = packOp o ++ packOps ops := by unfold packOps; rw [List.flatMap_cons]
    have hl := packOp_len o
    rw [e, List.length_append] at hn
    obtain ⟨m, rfl⟩ : ∃ m, n = m + 1 := ⟨n - 1, by omega⟩
    rw [e]
    unfold opsRd
    rw [if_neg]
    · rw [opRd_pack (h o (.head _))]
      dsimp only
      rw [ih (fun x hx => h x (.tail _ hx)) m (by omega)]
    · dsimp only
      intro e
      have := congrArg List.length e
      rw [List.length_append, List.length_nil] at this
      omega

theorem unpack_pack {ops : List OpS} (h : ∀ o ∈ ops, o.Fit) : unpack (packOps ops) = (ops, 0) := by
  unfold unpack
  rw [opsRd_pack ops h _ (Nat.le_refl _)]
  rfl
end Go.Proofs.YtnfomoeicgdkkaaGreatDoor

/- Operations are done, all or none: the walk. -/
set_option linter.unusedSimpArgs false
set_option linter.unusedVariables false
set_option maxRecDepth 1000000
namespace Go.Proofs.YtnfomoeicgdkkaaGreatDoor
namespace Eng

/-- operations that can be read in the frame -/
def RdOps (F : Hp) (v : Value) (ops : List OpS) : Prop := ∃ a c, v = .slice a ops.length c ∧
  (ops = [] ∨ ∃ b o L T fz, a = some ⟨b, o, none⟩ ∧ F b = some (.cells (List.toArray L) T fz) ∧
    ∀ i op, ops[i]? = some op → ∃ x, o + i * 4 + 4 ≤ L.length ∧ (L.drop (o + i * 4)).take 4 = opC op.kind op.path op.dest x ∧ RdB F x op.data)

theorem RdOps.ext {F F' : Hp} (e : Ext F F') {v : Value} {ops : List OpS} (h : RdOps F v ops) : RdOps F' v ops := by
  obtain ⟨a, c, hv, h⟩ := h
  refine ⟨a, c, hv, h.imp id ?_⟩
  rintro ⟨b, o, L, T, fz, ha, hF, r⟩
  refine ⟨b, o, L, T, fz, ha, e _ _ hF, fun i op hi => ?_⟩
  obtain ⟨x, h1, h2, h3⟩ := r i op hi
  exact ⟨x, h1, h2, h3.ext e⟩

attribute [local irreducible] Ops Segs Run Spec

theorem tree_UsedF (D : List HA) (t : Nat) (T : TreeS) (adr : Int → Nat) (N : Nat) (ok : T.Ok N) (m : Nat) (es : List MapEntry) (ck : Nat) (h1 : MapR encI es ck (T.nodes.map (encN adr))) (F : Hp)
    (hF : F t = some (.cells [.map (some m), .int .i64 T.next, .int .i64 T.quota].toArray 169 (0, 0))) :
    Spec Tryz.prog 20 [ptr t].toArray F (.pt m (.map (List.toArray es) ck) :: T.nodes.map (NodeP D adr)) fun v H => v = .int .i64 (T.used : Nat) ∧ H = .pt m (.map (List.toArray es) ck) :: T.nodes.map (NodeP D adr) := by
  have hgreat := ok.great
  have hlenN := ok.len
  refine Spec.enterC (n := 23) Tryz.func20 rfl (by simp) (by kernel_rfl) fun ec hc => ?_
  cbv at hc
  injection hc with hc
  subst hc
  simp only [argFr, Nat.reduceAdd]
  refine go ?_
  refine Ops.ldF rfl hF rfl ?_
  refine go ?_
  refine Ops.rngM rfl (.inl m0) fun it => ?_
  refine go1 ?_
  refine Ops.nil (Segs.nil ?_)
  refine Run.block (Run.loopI (ι := List Nat × List Int) (fun x => T.nodes.length - x.2.length) (fun x => Visit encI es (T.nodes.map (encN adr)) x.1 x.2)
    (fun x => [(10, .pointer (some ⟨it, 0, none⟩)), (3, .int .i64 ((x.2.map (usedAt T)).sum : Nat))])
    (fun x => .pt it (.mapIter (some m) ck x.1.toArray ck) :: .pt m (.map es.toArray ck) :: T.nodes.map (NodeP D adr)) ([], []) .start (.cons rfl (.cons rfl .nil)) (fun _ h => h) ?_)
  rintro ⟨seen, ds⟩ hv ih
  have ihn := ih
  clear ih
  dsimp only at hv ihn ⊢
  have hlv := hv.len
  have hsum := sum_le (usedAt T) 4000 ds fun i _ => usedAt_le ok i
  rw [List.length_map] at hlv
  refine go ?_
  refine Ops.nxtM (H1 := fun e => .pt it (.mapIter (some m) ck (seen ++ [e.born]).toArray ck) :: .pt m (.map es.toArray ck) :: T.nodes.map (NodeP D adr)) rfl (.inl m1) (Nat.le_refl _) h1.lt (fun e => u0) (fun e he hs => ?_) (fun hall => ?_)
  · obtain ⟨k, u, hku, hk1, hk2, hkd, hv2⟩ := hv.step same_i h1 he hs
    obtain ⟨rfl, n, hn⟩ := encN_mem ok hku
    have hv2len := hv2.len
    rw [List.length_map, List.length_append, List.length_append] at hv2len
    simp only [List.length_singleton] at hv2len
    have hent := h1.ent he
    have hu : usedAt T k = n.data.length := by unfold usedAt; rw [hn]; rfl
    have hdl := ok.data k n hn
    refine go ?_
    refine Run.condT rfl ?_
    refine Run.skip ?_
    refine Run.conseq (nodes_pull [_, _] ok.keys hn) ?_
    refine Run.open_ s0 fun G hG => ?_
    have hG' := hG
    have hnext := ihn (seen ++ [e.born], ds ++ [k]) (by dsimp only; simp only [List.length_append, List.length_singleton]; omega) hv2
    dsimp only at hnext
    obtain ⟨x, ⟨⟨xa, xc, rfl⟩, _⟩, ⟨_, hk, rfl⟩ | ⟨r, es2, ck2, hr, rfl⟩⟩ := hG
    · simp only [List.cons_append, List.nil_append]
      refine go ?_
      refine Ops.ent rfl m1 (.inl m2) hent ?_
      rw [hk2]
      refine go ?_
      refine Run.lp (Run.again hnext (.cons rfl (.cons ?_ .nil)) (fun h q => nodes_push [_, _] ok.keys hn hG' h q))
      simp only [List.map_append, List.map_cons, List.map_nil, List.sum_append, List.sum_cons, List.sum_nil, hu]
      show some (Value.int .i64 _) = _
      congr 2
    · simp only [List.cons_append, List.nil_append]
      refine go ?_
      refine Ops.ent rfl m2 (.inl m3) hent ?_
      rw [hk2]
      refine go ?_
      refine Run.lp (Run.again hnext (.cons rfl (.cons ?_ .nil)) (fun h q => nodes_push [_, _] ok.keys hn hG' h q))
      simp only [List.map_append, List.map_cons, List.map_nil, List.sum_append, List.sum_cons, List.sum_nil, hu]
      show some (Value.int .i64 _) = _
      congr 2
  · have hp := hv.fin h1 hall
    rw [enc_fst] at hp
    refine go ?_
    refine Run.condF rfl (Run.exit rfl ?_)
    refine go ?_
    refine Run.ret1 Tryz.func20 rfl rfl (fun h q => seps_tail q) ⟨?_, rfl⟩
    unfold TreeS.used
    rw [(hp.map (usedAt T)).sum_nat]

theorem pool_grow {D G G2 : List HA} {u : Nat} {T : TreeS} {adr : Int → Nat} {R : List HA} : ∀ w, seps ((TreeA (G2 ++ (G ++ D)) u T adr :: G2) ++ (G ++ R)) w → seps (TreeA ((G2 ++ G) ++ D) u T adr :: ((G2 ++ G) ++ R)) w := by
  intro w q
  simpa [List.append_assoc] using q

set_option maxHeartbeats 1000000 in
theorem tree_Do (D : List HA) (t : Nat) (T : TreeS) (adr : Int → Nat) (N : Nat) (inv : T.Inv) (few : T.Few N) (v : Value) (ops : List OpS) (hN : N + ops.length ≤ 1000000000) (F : Hp) (g : Glob F) (hv : RdOps F v ops) (hlen : ∀ o ∈ ops, o.data.length ≤ 1099511627) :
    Spec Tryz.prog 89 [ptr t, v].toArray F [TreeA D t T adr] (FileR D t (doT T ops)) := by
  obtain ⟨oa, oc, rfl, hv⟩ := hv
  have hdo : doT T ops = if (foldT T ops).1 ≠ 0 then ((foldT T ops).1, T) else if 128 < (foldT T ops).2.nodes.length then (7, T) else if T.quota < ((foldT T ops).2.used : Nat) then (13, T) else (0, (foldT T ops).2) := rfl
  have ok := inv.ok few
  have hq := (foldT_inv ops inv few hN).2.quota
  refine Spec.enterC (n := 42) Tryz.func89 rfl (by simp) (by kernel_rfl) fun ec hc => ?_
  cbv at hc
  injection hc with hc
  subst hc
  simp only [argFr, Nat.reduceAdd]
  refine go ?_
  refine Ops.call1 rfl (.cons s0 .nil) (fun F' e kn => tree_Clone D t T adr N ok F') ?_
  rintro v G ⟨u, adr1, rfl, rfl⟩
  simp only [List.cons_append, List.nil_append]
  refine go ?_
  refine Run.loopI (ι := Nat × TreeS × (Int → Nat) × List HA) (fun x => ops.length - x.1) (fun x => x.1 ≤ ops.length ∧ x.2.1.Inv ∧ x.2.1.Few (N + x.1) ∧ foldT T ops = foldT x.2.1 (ops.drop x.1))
    (fun x => [(13, .int .i64 x.1), (12, .int .i64 ops.length), (11, .slice oa ops.length oc), (5, ptr u), (0, ptr t)])
    (fun x => TreeA (x.2.2.2 ++ D) u x.2.1 x.2.2.1 :: (x.2.2.2 ++ [TreeA D t T adr])) (0, T, adr1, []) ⟨Nat.zero_le _, inv, few, rfl⟩ (.cons rfl (.cons rfl (.cons rfl (.cons rfl (.cons rfl .nil))))) (fun _ h => h) ?_
  rintro ⟨i, Ti, adri, G⟩ ⟨hi, hinv, hfew, hfold⟩ ih
  have ihn := ih
  clear ih
  dsimp only at hi hinv hfew hfold ihn ⊢
  refine go ?_
  refine Run.condD rfl (fun hlt => ?_) (fun hge => ?_)
  · have hlt' : i < ops.length := by omega
    have hget : ops.drop i = ops[i] :: ops.drop (i + 1) := List.drop_eq_getElem_cons hlt'
    have hel : ops[i]? = some ops[i] := List.getElem?_eq_getElem hlt'
    rcases hv with hv | ⟨b, o, L, Tc, fz, rfl, hF, hrd⟩
    · rw [hv] at hlt'; simp at hlt'
    obtain ⟨x, hx1, hx2, hx3⟩ := hrd i _ hel
    have hol := hlen _ (List.getElem_mem hlt')
    rw [hget] at hfold
    generalize ops[i] = op at *
    obtain ⟨kind, path, dest, data⟩ := op
    dsimp only at hx1 hx2 hx3 hol
    have hf2 : foldT T ops = if (stepT Ti ⟨kind, path, dest, data⟩).1 = 0 then foldT (stepT Ti ⟨kind, path, dest, data⟩).2 (ops.drop (i + 1)) else stepT Ti ⟨kind, path, dest, data⟩ := hfold
    have hstep := stepT_inv hinv hfew ⟨kind, path, dest, data⟩
    have hgrow := hinv.grow ⟨kind, path, dest, data⟩
    refine go ?_
    refine Ops.ixS rfl rfl ⟨by omega, by omega⟩ ?_
    refine Ops.ldnF rfl hF (by rw [Int.toNat_natCast]; exact hx1) ?_
    rw [Int.toNat_natCast, hx2]
    refine go ?_
    refine Ops.alloc fun tmp => ?_
    obtain ⟨⟨xa, xc, hxv⟩, _⟩ : (∃ a c, x = .slice a data.length c) ∧ True := by
      obtain ⟨a, c, h, _⟩ := hx3
      exact ⟨⟨a, c, h⟩, trivial⟩
    subst hxv
    refine Ops.stn0 (vs := opC kind path dest (.slice xa data.length xc)) rfl rfl rfl rfl (by intro v hv; simp [opC] at hv; rcases hv with rfl | rfl | rfl | rfl <;> rfl) u0 (by simp) (by simp [opC]) ?_
    refine go ?_
    refine Ops.ldn rfl m0 (by simp [opC]) ?_
    have e4 : (((List.take 0 [Value.int .i64 0, .string (ByteArray.mk #[]), .string (ByteArray.mk #[]), .slice none 0 0] ++ opC kind path dest (.slice xa data.length xc) ++ List.drop (0 + 4) [Value.int .i64 0, .string (ByteArray.mk #[]), .string (ByteArray.mk #[]), .slice none 0 0]).drop 0).take 4) = opC kind path dest (.slice xa data.length xc) := rfl
    rw [e4]
    refine go ?_
    refine Ops.call1 rfl (.cons s1 .nil) (fun F' e kn => tree_step (G ++ D) u Ti adri (N + i) (hinv.ok hfew) kind path dest data _ F' (g.ext e) (hx3.ext e) hol) ?_
    rintro v G2 ⟨Gn, adr2, rfl, rfl⟩
    generalize stepT Ti ⟨kind, path, dest, data⟩ = r at *
    refine go ?_
    by_cases h0' : r.1 = 0
    rotate_left
    · refine Run.condT (by simp [get, look, h0']) ?_
      rw [if_neg h0'] at hf2
      have hd : doT T ops = (r.1, T) := by rw [hdo, hf2, if_pos h0']
      refine go ?_
      refine Run.ret1 Tryz.func89 rfl rfl (H' := [TreeA D t T adr]) (fun h q => ?_) ⟨[], adr, by rw [hd], by rw [hd]; rfl⟩
      have q1 := seps_right (A := TreeA (Gn ++ (G ++ D)) u r.2 adr2 :: Gn) h q
      exact seps_right (A := G) h (seps_tail q1)
    · refine Run.condF (by simp [get, look, h0']) ?_
      rw [if_pos h0'] at hf2
      refine go ?_
      refine Run.lp (Run.again (ihn (i + 1, r.2, adr2, Gn ++ G) (by dsimp only; omega) ⟨by dsimp only; omega, hstep, hfew.grow hgrow (by omega), hf2⟩) (.cons rfl (.cons rfl (.cons rfl (.cons rfl (.cons rfl .nil))))) (fun h q => ?_))
      refine pool_grow h ?_
      exact seps_drop (A := [_]) (TreeA (Gn ++ (G ++ D)) u r.2 adr2 :: Gn) h (by simpa using q)
  · have hie : i = ops.length := by omega
    subst hie
    rw [List.drop_length] at hfold
    have hf3 : foldT T ops = (0, Ti) := hfold
    rw [hf3] at hdo hq
    dsimp only at hdo hq
    rw [if_neg (by simp)] at hdo
    refine Run.exit rfl ?_
    have okI := hinv.ok hfew
    refine Run.open_ s0 fun G0 hG0 => ?_
    obtain ⟨m, es, ck, h1, rfl⟩ := hG0
    refine Run.conseq (H' := treeC u m Ti :: .pt m (.map es.toArray ck) :: (Ti.nodes.map (NodeP (G ++ D) adri) ++ (G ++ [TreeA D t T adr]))) (fun h q => by simpa using q) ?_
    refine go ?_
    refine Ops.lenm rfl m1 ?_
    rw [show es.length = Ti.nodes.length by rw [h1.len, List.length_map]]
    refine go ?_
    refine Run.condD rfl (fun h7 => ?_) (fun h7 => ?_)
    · rw [if_pos (by omega)] at hdo
      refine go ?_
      refine Run.ret1 Tryz.func89 rfl rfl (H' := [TreeA D t T adr]) (fun h q => ?_) ⟨[], adr, by rw [hdo], by rw [hdo]; rfl⟩
      exact seps_right (A := treeC u m Ti :: .pt m (.map es.toArray ck) :: (Ti.nodes.map (NodeP (G ++ D) adri) ++ G)) h (by simpa [List.append_assoc] using q)
    rw [if_neg (by omega)] at hdo
    refine go ?_
    refine Segs.lend [_] (.cons s0 .nil) fun F1 x1 k1 => ?_
    refine go1 ?_
    refine Ops.ldF rfl (k1 _ _ m0) rfl ?_
    refine Ops.callE1 (.pt m (.map es.toArray ck) :: Ti.nodes.map (NodeP (G ++ D) adri)) (G ++ [TreeA D t T adr]) rfl (fun h q => by simpa using q) (fun F' e kn => tree_UsedF (G ++ D) u Ti adri _ okI m es ck h1 F' (e _ _ (k1 _ _ m0))) ?_
    rintro v G2 ⟨rfl, rfl⟩
    refine go1 ?_
    refine Ops.nil ?_
    refine Segs.conseq (H' := treeC u m Ti :: .pt m (.map es.toArray ck) :: (Ti.nodes.map (NodeP (G ++ D) adri) ++ (G ++ [TreeA D t T adr]))) (fun h q => by simpa using q) closed_run ?_
    refine go ?_
    refine Run.condD rfl (fun h13 => ?_) (fun h13 => ?_)
    · rw [if_pos (by rw [← hq]; exact h13)] at hdo
      refine go ?_
      refine Run.ret1 Tryz.func89 rfl rfl (H' := [TreeA D t T adr]) (fun h q => ?_) ⟨[], adr, by rw [hdo], by rw [hdo]; rfl⟩
      exact seps_right (A := treeC u m Ti :: .pt m (.map es.toArray ck) :: (Ti.nodes.map (NodeP (G ++ D) adri) ++ G)) h (by simpa [List.append_assoc] using q)
    rw [if_neg (by rw [← hq]; exact h13)] at hdo
    refine Run.conseq (H' := TreeA D t T adr :: treeC u m Ti :: .pt m (.map es.toArray ck) :: (Ti.nodes.map (NodeP (G ++ D) adri) ++ G)) (fun h q => seps_comm (A := treeC u m Ti :: .pt m (.map es.toArray ck) :: (Ti.nodes.map (NodeP (G ++ D) adri) ++ G)) (B := [TreeA D t T adr]) h (by simpa [List.append_assoc] using q)) ?_
    refine Run.open_ s0 fun G0 hG0 => ?_
    obtain ⟨m0', es0, ck0, h0, rfl⟩ := hG0
    refine Run.conseq (H' := treeC t m0' T :: treeC u m Ti :: .pt m (.map es.toArray ck) :: (Ti.nodes.map (NodeP (G ++ D) adri) ++ G)) (fun h q => ?_) ?_
    · exact seps_drop (A := .pt m0' (.map (List.toArray es0) ck0) :: T.nodes.map (NodeP D adr)) [treeC t m0' T] h (by simpa using q)
    refine go ?_
    refine Ops.ldn rfl m1 (by simp) ?_
    refine go ?_
    refine Ops.stn0 (vs := [.map (some m), .int .i64 Ti.next, .int .i64 Ti.quota]) rfl rfl rfl rfl (by intro v hv; simp at hv; rcases hv with rfl | rfl | rfl <;> rfl) u0 (by simp) (by simp) ?_
    refine go ?_
    refine Run.ret1 Tryz.func89 rfl rfl (H' := TreeA (G ++ D) t Ti adri :: G) (fun h q => ?_) ⟨G, adri, by rw [hdo], by rw [hdo]⟩
    have q1 := seps_swap q
    have q2 := seps_tail q1
    exact fold_app (I := TreeI (G ++ D) t Ti adri) (G := treeC t m Ti :: .pt m (.map (List.toArray es) ck) :: Ti.nodes.map (NodeP (G ++ D) adri)) (R := G) ⟨m, es, ck, h1, rfl⟩ h (by simpa using q2)
end Eng
end Go.Proofs.YtnfomoeicgdkkaaGreatDoor

/- Operations are packed: the walk. -/
set_option linter.unusedSimpArgs false
set_option linter.unusedVariables false
set_option maxRecDepth 1000000
namespace Go.Proofs.YtnfomoeicgdkkaaGreatDoor

def parts4 (o : OpS) : List Bytes := [le4 o.kind.toNat, raw o.path, raw o.dest, raw o.data]
def partsOf (ops : List OpS) : List Bytes := ops.flatMap parts4
theorem partsOf_flat : ∀ ops : List OpS, (partsOf ops).flatten = packOps ops := by
  intro ops
  induction ops with
  | nil => rfl
  | cons o ops ih =>
    unfold partsOf packOps at ih ⊢
    rw [List.flatMap_cons, List.flatMap_cons, List.flatten_append, ih]
    congr 1
    simp [parts4, packOp]
theorem partsOf_len : ∀ ops : List OpS, (partsOf ops).length = 4 * ops.length := by
  intro ops
  induction ops with
  | nil => rfl
  | cons o ops ih =>
    unfold partsOf at ih ⊢
    rw [List.flatMap_cons, List.length_append, ih]
    simp [parts4]
    omega

namespace Eng

/-- a row that comes out of a call, its shape named -/
theorem Spec.rowOut {P : Program} {f : FuncId} {args : Array Value} {F : Hp} {Pre : List HA} {b : Bytes} (s : Spec P f args F Pre fun v H => H = [RowP v b]) : Spec P f args F Pre fun v H => ∃ a c, v = .slice a b.length c ∧ H = [RowP v b] :=
  s.post fun v H h e q => by
    subst e
    obtain ⟨a, c, hv⟩ := row_text h q
    exact ⟨_, ⟨a, c, hv, rfl⟩, q⟩

attribute [local irreducible] Ops Segs Run Spec

theorem rec_Num_row (n : Nat) (hn : n < 4294967296) (F : Hp) : Spec Tryz.prog 156 [.int .i64 n].toArray F [] fun v H => H = [RowP v (le4 n)] :=
  (rec_Num n hn F).post fun v H h ⟨b, h1, h2⟩ q => by
    subst h1
    subst h2
    exact ⟨_, rfl, row_of_own (T := 5) (bs := le4 n) h (own_of_pt (H := []) (n := 4) (s := 1) (by simp [bvs_len, le4_len]) h q)⟩

theorem rows_snoc1 {vs : List Value} {bss : List Bytes} {b : Bytes} {v : Value} {H : List HA} : ∀ h, seps (RowsP vs bss :: RowP v b :: H) h → seps (RowsP (vs ++ [v]) (bss ++ [b]) :: H) h := rows_snocR

/-- four rows come to rows -/
theorem rows_four {vs : List Value} {bss : List Bytes} {v1 v2 v3 v4 : Value} {b1 b2 b3 b4 : Bytes} {H : List HA} : ∀ h, seps (RowsP vs bss :: RowP v1 b1 :: RowP v2 b2 :: RowP v3 b3 :: RowP v4 b4 :: H) h → seps (RowsP (vs ++ [v1, v2, v3, v4]) (bss ++ [b1, b2, b3, b4]) :: H) h := by
  intro h q
  have := rows_snocR h (rows_snocR h (rows_snocR h (rows_snocR h q)))
  simpa [List.append_assoc] using this

theorem flat_le : ∀ {ops : List OpS} {B : Nat}, (∀ o ∈ ops, (packOp o).length ≤ B) → (packOps ops).length ≤ B * ops.length := by
  intro ops B
  induction ops with
  | nil => intro _; simp [packOps]
  | cons o ops ih =>
    intro h
    have h1 := h o (.head _)
    have h2 := ih fun x hx => h x (.tail _ hx)
    unfold packOps at h2 ⊢
    rw [List.flatMap_cons, List.length_append, List.length_cons, Nat.mul_add]
    omega

/-- operations whose parts are not too long to be packed -/
def Packs (ops : List OpS) : Prop := ops.length ≤ 1000 ∧ ∀ o ∈ ops, 0 ≤ o.kind ∧ o.kind ≤ 6 ∧ o.path.length ≤ 100000000 ∧ o.dest.length ≤ 100000000 ∧ o.data.length ≤ 100000000

theorem tree_Pack (v : Value) (ops : List OpS) (F : Hp) (hv : RdOps F v ops) (hp : Packs ops) :
    Spec Tryz.prog 91 [v].toArray F [] fun r H => ∃ a c, r = .slice a (packOps ops).length c ∧ H = [OwnS a (packOps ops).length c 1 5 (bvs (packOps ops))] := by
  obtain ⟨oa, oc, rfl, hv⟩ := hv
  have hpl : (packOps ops).length ≤ 300000016 * ops.length := flat_le fun o ho => by
    have := hp.2 o ho
    rw [packOp_len]
    omega
  have hp1 := hp.1
  refine Spec.enterC (n := 30) Tryz.func91 rfl (by simp) (by kernel_rfl) fun ec hc => ?_
  cbv at hc
  injection hc with hc
  subst hc
  simp only [argFr, Nat.reduceAdd]
  refine go ?_
  refine Run.loopI (ι := Nat × Option Addr × Nat × List Value) (fun x => ops.length - x.1) (fun x => x.1 ≤ ops.length ∧ x.2.2.2.length = 4 * x.1)
    (fun x => [(8, .int .i64 x.1), (7, .int .i64 ops.length), (6, .slice oa ops.length oc), (3, .slice x.2.1 (4 * x.1) x.2.2.1)])
    (fun x => [OwnS x.2.1 (4 * x.1) x.2.2.1 1 257 x.2.2.2, RowsP x.2.2.2 (partsOf (ops.take x.1))]) (0, none, 0, []) ⟨Nat.zero_le _, rfl⟩ (.cons rfl (.cons rfl (.cons rfl (.cons rfl .nil)))) (fun h q => own_new h (rows_none h q)) ?_
  rintro ⟨i, a, c, vs⟩ ⟨hi, hvl⟩ ih
  have ihn := ih
  clear ih
  dsimp only at hi hvl ihn ⊢
  refine go ?_
  refine Run.condD rfl (fun hlt => ?_) (fun hge => ?_)
  · have hlt' : i < ops.length := by omega
    have htake : ops.take (i + 1) = ops.take i ++ [ops[i]] := List.take_succ_eq_append_getElem hlt'
    have hel : ops[i]? = some ops[i] := List.getElem?_eq_getElem hlt'
    have hpo := hp.2 _ (List.getElem_mem hlt')
    rcases hv with hv | ⟨b, o, L, Tc, fz, rfl, hF, hrd⟩
    · rw [hv] at hlt'; simp at hlt'
    obtain ⟨x, hx1, hx2, hx3⟩ := hrd i _ hel
    generalize ops[i] = op at *
    obtain ⟨kind, path, dest, data⟩ := op
    dsimp only at hx1 hx2 hx3 hpo
    obtain ⟨k, rfl⟩ := Int.eq_ofNat_of_zero_le hpo.1
    refine go ?_
    refine Ops.ixS rfl rfl ⟨by omega, by omega⟩ ?_
    refine Ops.ldnF rfl hF (by rw [Int.toNat_natCast]; exact hx1) ?_
    rw [Int.toNat_natCast, hx2]
    refine go ?_
    refine Ops.alloc fun tmp => ?_
    obtain ⟨⟨xa, xc, hxv⟩, _⟩ : (∃ a c, x = .slice a data.length c) ∧ True := by
      obtain ⟨a, c, h, _⟩ := hx3
      exact ⟨⟨a, c, h⟩, trivial⟩
    subst hxv
    refine Ops.stn0 (vs := opC k path dest (.slice xa data.length xc)) rfl rfl rfl rfl (by intro v hv; simp [opC] at hv; rcases hv with rfl | rfl | rfl | rfl <;> rfl) u0 (by simp) (by simp [opC]) ?_
    refine go ?_
    refine Segs.lend [_] (.cons s0 .nil) fun F1 x1 k1 => ?_
    refine go1 ?_
    refine Ops.ldF rfl (k1 _ _ m0) rfl ?_
    refine Ops.ldF rfl (k1 _ _ m0) rfl ?_
    refine Ops.ldF rfl (k1 _ _ m0) rfl ?_
    refine Ops.ldF rfl (k1 _ _ m0) rfl ?_
    refine Ops.call1 rfl .nil (fun F' e kn => (rec_Num_row k (by omega) F').rowOut) ?_
    rintro v1 G1 ⟨a1, c1, rfl, rfl⟩
    refine Ops.call1 rfl .nil (fun F' e kn => (rec_Text path F' (by omega)).rowOut) ?_
    rintro v2 G2 ⟨a2, c2, rfl, rfl⟩
    refine Ops.call1 rfl .nil (fun F' e kn => (rec_Text dest F' (by omega)).rowOut) ?_
    rintro v3 G3 ⟨a3, c3, rfl, rfl⟩
    refine go1 ?_
    refine Ops.nil (Segs.oneS rfl ?_)
    simp only [List.cons_append, List.nil_append]
    refine Ops.call1 rfl .nil (fun F' e kn => (rec_Raw _ data F' (hx3.ext e) (by omega)).rowOut) ?_
    rintro v4 G4 ⟨a4, c4, rfl, rfl⟩
    simp only [List.cons_append, List.nil_append]
    refine go ?_
    refine Ops.lit [.slice a1 (le4 k).length c1, .slice a2 (raw path).length c2, .slice a3 (raw dest).length c3, .slice a4 (raw data).length c4] rfl rfl fun b1 => ?_
    refine go ?_
    refine Ops.app (m := 4) (ys := [.slice a1 (le4 k).length c1, .slice a2 (raw path).length c2, .slice a3 (raw dest).length c3, .slice a4 (raw data).length c4]) rfl rfl rfl s6 (shows_pt m0 (Nat.le_refl 4) rfl) (fun v hv => by simp at hv; rcases hv with rfl | rfl | rfl | rfl <;> rfl) rfl (by decide) (by omega) fun a' c' => ?_
    refine go ?_
    refine Run.lp (Run.again (ihn (i + 1, a', c', vs ++ [.slice a1 (le4 k).length c1, .slice a2 (raw path).length c2, .slice a3 (raw dest).length c3, .slice a4 (raw data).length c4]) (by dsimp only; omega) ⟨by dsimp only; omega, by dsimp only; rw [List.length_append, hvl]; rfl⟩) (.cons rfl (.cons rfl (.cons rfl (.cons rfl .nil)))) (fun h q => ?_))
    dsimp only
    have e5 : partsOf (ops.take (i + 1)) = partsOf (ops.take i) ++ [le4 k, raw path, raw dest, raw data] := by
      rw [htake]
      unfold partsOf
      rw [List.flatMap_append]
      simp [parts4]
    rw [e5]
    exact seps_cons (fun h q => rows_four h (take_sub (.cons s6 (.cons s5 (.cons s4 (.cons s3 (.cons s1 .nil))))) h q)) q
  · have hie : i = ops.length := by omega
    subst hie
    rw [List.take_length] at *
    refine Run.exit rfl ?_
    have hfl := partsOf_flat ops
    have hpn := partsOf_len ops
    rw [← hpn]
    refine Run.open_ s0 fun G1 h1 => ?_
    refine Run.conseq (H' := RowsP vs (partsOf ops) :: G1) (fun h q => seps_comm h q) ?_
    refine Run.open_ s0 fun G2 h2 => ?_
    refine Run.lendD (G2 ++ G1) (take_all _) fun F1 x1 k1 => ?_
    have hbb := h1.rdBB k1.right (h2.rds k1.left)
    refine go ?_
    refine Ops.call1 rfl .nil (fun F' e kn => rec_Pack _ _ F' (hbb.ext e) (by omega) (by rw [hfl]; omega)) ?_
    rintro v G ⟨a', c', rfl, rfl⟩
    rw [hfl]
    simp only [List.cons_append, List.nil_append]
    refine go ?_
    exact Run.ret1 Tryz.func91 rfl rfl (fun h q => q) ⟨a', c', rfl, rfl⟩
end Eng
end Go.Proofs.YtnfomoeicgdkkaaGreatDoor
