/- Maps as lists of pairs; the entries of a map in memory. -/
import Derived.Test.YtnfomoeicgdkkaaGreatDoorZ7
set_option linter.unusedSimpArgs false
set_option linter.unusedVariables false
namespace Go.Proofs.YtnfomoeicgdkkaaGreatDoor
section
variable {K V : Type} [DecidableEq K]

def aget (m : List (K × V)) (k : K) : Option V := (m.find? fun x => decide (x.1 = k)).map Prod.snd
def adel (m : List (K × V)) (k : K) : List (K × V) := m.filter fun x => !decide (x.1 = k)
def aput (m : List (K × V)) (k : K) (v : V) : List (K × V) := (k, v) :: adel m k

theorem aget_cons (k k' : K) (v : V) (m : List (K × V)) : aget ((k', v) :: m) k = if k' = k then some v else aget m k := by
  unfold aget
  by_cases h : k' = k
  · simp [h]
  · simp [h]

theorem aget_none {m : List (K × V)} {k : K} : aget m k = none ↔ ∀ x ∈ m, x.1 ≠ k := by
  induction m with
  | nil => simp [aget]
  | cons x m ih =>
    obtain ⟨k', v⟩ := x
    rw [aget_cons]
    by_cases h : k' = k
    · simp [h]
    · rw [if_neg h, ih]
      simp [h]

theorem aget_mem {m : List (K × V)} {k : K} {v : V} (h : aget m k = some v) : (k, v) ∈ m := by
  induction m with
  | nil => simp [aget] at h
  | cons x m ih =>
    obtain ⟨k', v'⟩ := x
    rw [aget_cons] at h
    by_cases e : k' = k
    · rw [if_pos e] at h; cases h; subst e; exact .head _
    · rw [if_neg e] at h; exact .tail _ (ih h)

theorem adel_none {m : List (K × V)} {k : K} (h : ∀ x ∈ m, x.1 ≠ k) : adel m k = m := by
  unfold adel
  rw [List.filter_eq_self]
  intro x hx
  simp [h x hx]

theorem mem_aget {m : List (K × V)} (nd : (m.map Prod.fst).Nodup) {k : K} {v : V} (h : (k, v) ∈ m) : aget m k = some v := by
  induction m with
  | nil => cases h
  | cons x m ih =>
    obtain ⟨k', v'⟩ := x
    rw [List.map_cons, List.nodup_cons] at nd
    rw [aget_cons]
    cases h with
    | head => rw [if_pos rfl]
    | tail _ h =>
      rw [if_neg, ih nd.2 h]
      intro e
      subst e
      exact nd.1 (List.mem_map.2 ⟨_, h, rfl⟩)

theorem perm_adel {m : List (K × V)} (nd : (m.map Prod.fst).Nodup) {k : K} {v : V} (h : (k, v) ∈ m) : m.Perm ((k, v) :: adel m k) := by
  induction m with
  | nil => cases h
  | cons x m ih =>
    obtain ⟨k', v'⟩ := x
    rw [List.map_cons, List.nodup_cons] at nd
    cases h with
    | head =>
      have : adel ((k, v) :: m) k = m := by
        have h2 : adel m k = m := adel_none fun x hx e => nd.1 (List.mem_map.2 ⟨x, hx, e⟩)
        unfold adel at h2 ⊢
        simp only [List.filter_cons, decide_true, Bool.not_true, Bool.false_eq_true, if_false]
        exact h2
      rw [this]
    | tail _ h =>
      have hne : k' ≠ k := by
        intro e
        subst e
        exact nd.1 (List.mem_map.2 ⟨_, h, rfl⟩)
      have h2 : adel ((k', v') :: m) k = (k', v') :: adel m k := by
        unfold adel
        simp [hne]
      rw [h2]
      exact ((ih nd.2 h).cons _).trans (.swap _ _ _)

theorem adel_nodup {m : List (K × V)} (nd : (m.map Prod.fst).Nodup) (k : K) : ((adel m k).map Prod.fst).Nodup :=
  nd.sublist ((List.filter_sublist (p := fun x : K × V => !decide (x.1 = k))).map Prod.fst)

theorem adel_not (m : List (K × V)) (k : K) : ∀ x ∈ adel m k, x.1 ≠ k := by
  intro x hx
  unfold adel at hx
  rw [List.mem_filter] at hx
  simpa using hx.2

theorem aput_nodup {m : List (K × V)} (nd : (m.map Prod.fst).Nodup) (k : K) (v : V) : ((aput m k v).map Prod.fst).Nodup := by
  unfold aput
  rw [List.map_cons, List.nodup_cons]
  refine ⟨fun h => ?_, adel_nodup nd k⟩
  obtain ⟨x, hx, e⟩ := List.mem_map.1 h
  exact adel_not m k x hx e
end

namespace Eng

/-- a map's entries: these pairs, in some order -/
structure MapR {K : Type} (enc : K → Value) (es : List MapEntry) (ck : Nat) (m : List (K × Value)) : Prop where
  perm : (es.map fun e => (e.key, e.val)).Perm (m.map fun x => (enc x.1, x.2))
  keys : (m.map Prod.fst).Nodup
  borns : (es.map (·.born)).Nodup
  lt : ∀ e ∈ es, e.born < ck

theorem MapR.nil {K : Type} {enc : K → Value} : MapR enc [] 0 [] := ⟨.refl _, .nil, .nil, by simp⟩

def Same {K : Type} [DecidableEq K] (D : TypeDesc) (enc : K → Value) : Prop := ∀ a b, Instr.sameNow D (enc a) (enc b) = some (decide (a = b))

theorem Same.inj {K : Type} [DecidableEq K] {D : TypeDesc} {enc : K → Value} (s : Same D enc) {a b : K} (h : enc a = enc b) : a = b := by
  have h1 := s a b
  rw [h, s b b] at h1
  simpa using h1

theorem find_cases {K : Type} [DecidableEq K] {D : TypeDesc} {enc : K → Value} (s : Same D enc) (k : K) : ∀ (es : List MapEntry) (i : Nat), (∀ e ∈ es, ∃ a, e.key = enc a) →
    (Instr.findNow D (enc k) es i = some none ∧ ∀ e ∈ es, e.key ≠ enc k) ∨ ∃ A e B, es = A ++ e :: B ∧ e.key = enc k ∧ Instr.findNow D (enc k) es i = some (some (i + A.length, e.val)) := by
  intro es
  induction es with
  | nil => intro i _; exact .inl ⟨rfl, by simp⟩
  | cons e es ih =>
    intro i h
    obtain ⟨a, ha⟩ := h e (.head _)
    by_cases hk : k = a
    · subst hk
      refine .inr ⟨[], e, es, rfl, ha, ?_⟩
      unfold Instr.findNow
      rw [ha, s k k]
      simp
    · have hs : Instr.sameNow D (enc k) e.key = some false := by rw [ha, s k a]; simp [hk]
      have hf : Instr.findNow D (enc k) (e :: es) i = Instr.findNow D (enc k) es (i + 1) := by
        conv => lhs; unfold Instr.findNow
        rw [hs]
      rw [hf]
      rcases ih (i + 1) fun x hx => h x (.tail _ hx) with ⟨h1, h2⟩ | ⟨A, x, B, h1, h2, h3⟩
      · refine .inl ⟨h1, fun x hx => ?_⟩
        cases hx with
        | head => intro e2; rw [ha] at e2; exact hk (s.inj e2).symm
        | tail _ hx => exact h2 x hx
      · refine .inr ⟨e :: A, x, B, by rw [h1]; rfl, h2, ?_⟩
        rw [h3]
        simp only [List.length_cons]
        congr 3; omega

theorem modify_at (A B : List MapEntry) (e : MapEntry) (f : MapEntry → MapEntry) : (A ++ e :: B).modify A.length f = A ++ f e :: B := by
  induction A with
  | nil => rfl
  | cons a A ih => simp [ih]

theorem erase_at (A B : List MapEntry) (e : MapEntry) : (A ++ e :: B).eraseIdx A.length = A ++ B := by
  induction A with
  | nil => rfl
  | cons a A ih => simp [ih]

theorem MapR.find {K : Type} [DecidableEq K] {D : TypeDesc} {enc : K → Value} (s : Same D enc) {es : List MapEntry} {ck : Nat} {m : List (K × Value)} (h : MapR enc es ck m) (k : K) :
    ∃ fr, Instr.findNow D (enc k) es 0 = some fr ∧ fr.map Prod.snd = aget m k ∧ (∀ v, MapR enc (mapPut es ck (enc k) v fr) (mapClock ck fr) (aput m k v)) ∧ MapR enc (mapDel es fr) ck (adel m k) := by
  have hkeys : ∀ e ∈ es, ∃ a, e.key = enc a := by
    intro e he
    have := h.perm.mem_iff.1 (List.mem_map.2 ⟨e, he, rfl⟩)
    obtain ⟨x, _, hx⟩ := List.mem_map.1 this
    exact ⟨x.1, by have := congrArg Prod.fst hx; exact this.symm⟩
  rcases find_cases s k es 0 hkeys with ⟨h1, h2⟩ | ⟨A, e, B, rfl, h2, h3⟩
  · have hno : ∀ x ∈ m, x.1 ≠ k := by
      intro x hx e
      have := h.perm.mem_iff.2 (List.mem_map.2 ⟨x, hx, rfl⟩)
      obtain ⟨y, hy, hyx⟩ := List.mem_map.1 this
      exact h2 y hy (by have := congrArg Prod.fst hyx; simpa [e] using this)
    refine ⟨none, h1, (aget_none.2 hno).symm, fun v => ?_, ?_⟩
    · refine ⟨?_, aput_nodup h.keys k v, ?_, ?_⟩
      · unfold aput
        rw [adel_none hno]
        simp only [mapPut, List.map_append, List.map_cons, List.map_nil]
        exact (h.perm.append_right _).trans (List.perm_append_comm.trans (.refl _))
      · simp only [mapPut, List.map_append, List.map_cons, List.map_nil]
        rw [List.nodup_append]
        refine ⟨h.borns, by simp, ?_⟩
        intro a ha b hb
        obtain ⟨y, hy, rfl⟩ := List.mem_map.1 ha
        simp only [List.mem_singleton] at hb
        have := h.lt y hy
        omega
      · intro x hx
        simp only [mapPut, List.mem_append, List.mem_singleton, mapClock] at hx ⊢
        rcases hx with hx | rfl
        · have := h.lt x hx; omega
        · simp
    · rw [adel_none hno]; exact h
  · have hmem := h.perm.mem_iff.1 (List.mem_map.2 ⟨e, by simp, rfl⟩)
    obtain ⟨x, hx, hxe⟩ := List.mem_map.1 hmem
    obtain ⟨k', v0⟩ := x
    have e1 : enc k' = enc k := by have := congrArg Prod.fst hxe; rw [← h2]; exact this
    have e2 : v0 = e.val := congrArg Prod.snd hxe
    obtain rfl := s.inj e1
    subst e2
    have hp := perm_adel h.keys hx
    have hcancel : (A.map (fun e => (e.key, e.val)) ++ B.map (fun e => (e.key, e.val))).Perm ((adel m k').map fun x => (enc x.1, x.2)) := by
      have q1 : ((A ++ e :: B).map fun e => (e.key, e.val)).Perm ((enc k', e.val) :: (adel m k').map fun x => (enc x.1, x.2)) := h.perm.trans (hp.map _)
      rw [List.map_append, List.map_cons] at q1
      have q2 := (List.perm_middle.symm.trans q1)
      rw [h2] at q2
      exact q2.cons_inv
    have hb := h.borns
    rw [List.map_append, List.map_cons] at hb
    refine ⟨some (A.length, e.val), by rw [h3, Nat.zero_add], (mem_aget h.keys hx).symm, fun v => ?_, ?_⟩
    · refine ⟨?_, aput_nodup h.keys k' v, ?_, ?_⟩
      · simp only [mapPut, modify_at, List.map_append, List.map_cons, aput]
        exact List.perm_middle.trans (hcancel.cons _)
      · simp only [mapPut, modify_at, List.map_append, List.map_cons]
        exact hb
      · intro x hx2
        simp only [mapPut, modify_at, List.mem_append, List.mem_cons, mapClock] at hx2 ⊢
        rcases hx2 with hx2 | rfl | hx2
        · exact h.lt x (by simp [hx2])
        · exact h.lt e (by simp)
        · exact h.lt x (by simp [hx2])
    · refine ⟨?_, adel_nodup h.keys k', ?_, ?_⟩
      · simp only [mapDel, erase_at, List.map_append]
        exact hcancel
      · simp only [mapDel, erase_at, List.map_append]
        exact hb.sublist (List.Sublist.append_left (List.sublist_cons_self _ _) _)
      · intro x hx2
        simp only [mapDel, erase_at, List.mem_append] at hx2
        exact h.lt x (by rcases hx2 with y | y <;> simp [y])

theorem MapR.len {K : Type} {enc : K → Value} {es : List MapEntry} {ck : Nat} {m : List (K × Value)} (h : MapR enc es ck m) : es.length = m.length := by
  have := h.perm.length_eq
  simpa using this

theorem MapR.perm' {K : Type} {enc : K → Value} {es : List MapEntry} {ck : Nat} {m m' : List (K × Value)} (h : MapR enc es ck m) (p : m.Perm m') : MapR enc es ck m' :=
  ⟨h.perm.trans (p.map _), (p.map Prod.fst).nodup_iff.1 h.keys, h.borns, h.lt⟩

theorem same_int {i : TypeId} : True := trivial
end Eng
end Go.Proofs.YtnfomoeicgdkkaaGreatDoor

/- A tree: its nodes, plainly, and in memory; what stands at a path. -/
set_option linter.unusedSimpArgs false
set_option linter.unusedVariables false
namespace Go.Proofs.YtnfomoeicgdkkaaGreatDoor

structure NodeS where
  dir : Bool
  links : Int
  data : Bytes
  kids : List (Bytes × Int)

structure TreeS where
  nodes : List (Int × NodeS)
  next : Int
  quota : Int

def kidOf (n : NodeS) (s : Bytes) : Int := (aget n.kids s).getD 0

def walkT (T : TreeS) : Int → List Bytes → Int
  | i, [] => i
  | i, s :: l => match aget T.nodes i with
    | none => 0
    | some n => if kidOf n s = 0 then 0 else walkT T (kidOf n s) l

def TreeS.find (T : TreeS) (p : Bytes) : Int := match splitP p with
  | none => 0
  | some l => walkT T 1 l

/-- what all trees have: a root, kids that are there, and numbers that are not great -/
structure TreeS.Ok (T : TreeS) (N : Nat) : Prop where
  keys : (T.nodes.map Prod.fst).Nodup
  root : ∃ n, aget T.nodes 1 = some n ∧ n.dir = true
  kids : ∀ i n s k, aget T.nodes i = some n → aget n.kids s = some k → k ≠ 0 ∧ ∃ n', aget T.nodes k = some n'
  kkeys : ∀ i n, aget T.nodes i = some n → (n.kids.map Prod.fst).Nodup
  len : T.nodes.length ≤ N
  next : 0 ≤ T.next ∧ T.next ≤ N
  links : ∀ i n, aget T.nodes i = some n → -(N : Int) ≤ n.links ∧ n.links ≤ N
  data : ∀ i n, aget T.nodes i = some n → n.data.length ≤ 4000
  ids : ∀ i n, aget T.nodes i = some n → -(N : Int) ≤ i ∧ i ≤ N
  great : N ≤ 1000000000
  fresh : ∀ i n, aget T.nodes i = some n → i < T.next

theorem walkT_mem {T : TreeS} {N : Nat} (ok : T.Ok N) : ∀ (l : List Bytes) (i : Int), (∃ n, aget T.nodes i = some n) → walkT T i l = 0 ∨ ∃ n, aget T.nodes (walkT T i l) = some n := by
  intro l
  induction l with
  | nil => intro i h; exact .inr h
  | cons s l ih =>
    intro i ⟨n, h⟩
    simp only [walkT, h]
    by_cases hk : kidOf n s = 0
    · rw [if_pos hk]; exact .inl rfl
    · rw [if_neg hk]
      unfold kidOf at hk ⊢
      cases hg : aget n.kids s with
      | none => rw [hg] at hk; exact absurd rfl hk
      | some k => exact ih k (ok.kids i n s k h hg).2

theorem find_mem {T : TreeS} {N : Nat} (ok : T.Ok N) (p : Bytes) : T.find p = 0 ∨ ∃ n, aget T.nodes (T.find p) = some n := by
  unfold TreeS.find
  cases splitP p with
  | none => exact .inl rfl
  | some l =>
    obtain ⟨n, h, _⟩ := ok.root
    exact walkT_mem ok l 1 ⟨n, h⟩

namespace Eng

abbrev encI (n : Int) : Value := .int .i64 n
theorem same_i : Same (.int .i64) encI := fun a b => by
  show some (a == b) = _
  congr 1
theorem same_s : Same .string sv := fun a b => by
  show some ((a.toArray : Array UInt8) == b.toArray) = _
  congr 1
  rw [Bool.eq_iff_iff]
  simp

/-- bytes that can be read where a pool is known -/
def DataR (D : List HA) (x : Value) (bs : Bytes) : Prop := (∃ a c, x = .slice a bs.length c) ∧ ∀ F, Known D F → RdB F x bs
theorem DataR.mono {D D' : List HA} {x : Value} {bs : Bytes} (h : DataR D x bs) (s : ∀ y ∈ D, y ∈ D') : DataR D' x bs :=
  ⟨h.1, fun F k => h.2 F fun b o m => k b o (s _ m)⟩

abbrev ptr (a : Nat) : Value := .pointer (some ⟨a, 0, none⟩)
def encV (x : Bytes × Int) : Bytes × Value := (x.1, encI x.2)

/-- a node in memory -/
def NodeI (D : List HA) (a : Nat) (n : NodeS) (G : List HA) : Prop := ∃ x, DataR D x n.data ∧
  ((n.dir = false ∧ n.kids = [] ∧ G = [.pt a (.cells [.bool n.dir, .int .i64 n.links, x, .map none].toArray 172 (0, 0))]) ∨
   ∃ r es ck, MapR sv es ck (n.kids.map encV) ∧ G = [.pt a (.cells [.bool n.dir, .int .i64 n.links, x, .map (some r)].toArray 172 (0, 0)), .pt r (.map (List.toArray es) ck)])
def NodeP (D : List HA) (adr : Int → Nat) (x : Int × NodeS) : HA := grp (NodeI D (adr x.1) x.2)

def encN (adr : Int → Nat) (x : Int × NodeS) : Int × Value := (x.1, ptr (adr x.1))

abbrev treeC (t m : Nat) (T : TreeS) : HA := .pt t (.cells [.map (some m), .int .i64 T.next, .int .i64 T.quota].toArray 169 (0, 0))

/-- a tree in memory, its nodes' data in a pool; where each node lies -/
def TreeI (D : List HA) (t : Nat) (T : TreeS) (adr : Int → Nat) (G : List HA) : Prop := ∃ (m : Nat) (es : List MapEntry) (ck : Nat), MapR encI es ck (T.nodes.map (encN adr)) ∧
  G = treeC t m T :: .pt m (.map (List.toArray es) ck) :: T.nodes.map (NodeP D adr)
def TreeA (D : List HA) (t : Nat) (T : TreeS) (adr : Int → Nat) : HA := grp (TreeI D t T adr)

theorem NodeI.mono {D D' : List HA} {a : Nat} {n : NodeS} {G : List HA} (h : NodeI D a n G) (s : ∀ y ∈ D, y ∈ D') : NodeI D' a n G := by
  obtain ⟨x, hx, h⟩ := h
  exact ⟨x, hx.mono s, h⟩

theorem grp_mono {I J : List HA → Prop} (h : ∀ G, I G → J G) {H : List HA} : ∀ w, seps (grp I :: H) w → seps (grp J :: H) w := by
  rintro w ⟨x, y, sp, ⟨G, hG, q⟩, qr⟩
  exact ⟨x, y, sp, ⟨G, h G hG, q⟩, qr⟩

theorem nodes_mono {D D' : List HA} {adr : Int → Nat} (s : ∀ y ∈ D, y ∈ D') : ∀ (L : List (Int × NodeS)) {H : List HA} (w : Hp), seps (L.map (NodeP D adr) ++ H) w → seps (L.map (NodeP D' adr) ++ H) w := by
  intro L
  induction L with
  | nil => intro H w q; exact q
  | cons x L ih =>
    intro H w q
    exact grp_mono (fun G hG => hG.mono s) w (seps_cons (fun h q => ih h q) q)

theorem tree_mono {D D' : List HA} {t : Nat} {T : TreeS} {adr : Int → Nat} {H : List HA} (s : ∀ y ∈ D, y ∈ D') : ∀ w, seps (TreeA D t T adr :: H) w → seps (TreeA D' t T adr :: H) w := by
  rintro w ⟨x, y, sp, ⟨G, ⟨m, es, ck, h1, rfl⟩, q⟩, qr⟩
  refine ⟨x, y, sp, ⟨_, ⟨m, es, ck, h1, rfl⟩, ?_⟩, qr⟩
  refine seps_cons (fun h q => seps_cons (fun h q => ?_) q) q
  have := nodes_mono s T.nodes (H := []) h (by simpa using q)
  simpa using this

theorem seps_perm {A B : List HA} (p : A.Perm B) : ∀ h, seps A h → seps B h := by
  induction p with
  | nil => exact fun h q => q
  | cons x _ ih => exact fun h q => seps_cons ih q
  | swap x y l => exact fun h q => seps_swap q
  | trans _ _ i1 i2 => exact fun h q => i2 h (i1 h q)

theorem fold_app {I : List HA → Prop} {G R : List HA} (hI : I G) : ∀ w, seps (G ++ R) w → seps (grp I :: R) w := fun w q => by
  obtain ⟨x, y, sp, qx, qy⟩ := seps_append.1 q
  exact ⟨x, y, sp, ⟨G, hI, qx⟩, qy⟩

/-- a tree is opened, one of its nodes ahead -/
theorem tree_at {D : List HA} {t : Nat} {T : TreeS} {adr : Int → Nat} {i : Int} {n : NodeS} {H : List HA} (nd : (T.nodes.map Prod.fst).Nodup) (hi : aget T.nodes i = some n) : ∀ w, seps (TreeA D t T adr :: H) w →
    ∃ m es ck, MapR encI es ck (T.nodes.map (encN adr)) ∧ seps (grp (NodeI D (adr i) n) :: treeC t m T :: .pt m (.map es.toArray ck) :: ((adel T.nodes i).map (NodeP D adr) ++ H)) w := by
  rintro w ⟨x, y, sp, ⟨G, ⟨m, es, ck, h1, rfl⟩, q⟩, qr⟩
  refine ⟨m, es, ck, h1, ?_⟩
  have p := perm_adel nd (aget_mem hi)
  have q2 := seps_append.2 ⟨x, y, sp, q, qr⟩
  refine seps_perm ?_ w q2
  have p2 := (p.map (NodeP D adr)).append_right H
  refine (List.Perm.cons _ (List.Perm.cons _ p2)).trans ?_
  rw [List.map_cons]
  exact (List.Perm.cons _ (List.Perm.swap _ _ _)).trans (List.Perm.swap _ _ _)

/-- and closed, as it was -/
theorem tree_shut {D : List HA} {t m : Nat} {T : TreeS} {adr : Int → Nat} {i : Int} {n : NodeS} {H G : List HA} {es : List MapEntry} {ck : Nat} (nd : (T.nodes.map Prod.fst).Nodup) (hi : aget T.nodes i = some n) (h : MapR encI es ck (T.nodes.map (encN adr))) (hI : NodeI D (adr i) n G) :
    ∀ w, seps (G ++ (treeC t m T :: .pt m (.map es.toArray ck) :: ((adel T.nodes i).map (NodeP D adr) ++ H))) w → seps (TreeA D t T adr :: H) w := by
  intro w q
  have p := perm_adel nd (aget_mem hi)
  have q1 := fold_app (I := NodeI D (adr i) n) hI w q
  have q2 : seps ((treeC t m T :: .pt m (.map es.toArray ck) :: T.nodes.map (NodeP D adr)) ++ H) w := by
    refine seps_perm ?_ w q1
    have p2 := (p.map (NodeP D adr)).append_right H
    refine List.Perm.trans ?_ (List.Perm.cons _ (List.Perm.cons _ p2)).symm
    rw [List.map_cons]
    exact (List.Perm.swap _ _ _).trans (List.Perm.cons _ (List.Perm.swap _ _ _))
  obtain ⟨x, y, sp, qx, qy⟩ := seps_append.1 q2
  exact ⟨x, y, sp, ⟨_, ⟨m, es, ck, h, rfl⟩, qx⟩, qy⟩

/-- and closed, a node put into its place -/
theorem tree_put {D : List HA} {t m : Nat} {T : TreeS} {adr : Int → Nat} {i : Int} {n : NodeS} {H G : List HA} {es : List MapEntry} {ck : Nat} (h : MapR encI es ck ((aput T.nodes i n).map (encN adr))) (hI : NodeI D (adr i) n G) :
    ∀ w, seps (G ++ (treeC t m T :: .pt m (.map es.toArray ck) :: ((adel T.nodes i).map (NodeP D adr) ++ H))) w → seps (TreeA D t { T with nodes := aput T.nodes i n } adr :: H) w := by
  intro w q
  have q1 := fold_app (I := NodeI D (adr i) n) hI w q
  have q2 : seps ((treeC t m T :: .pt m (.map es.toArray ck) :: (aput T.nodes i n).map (NodeP D adr)) ++ H) w := (Take.cons s1 (.cons s1 (.cons s0 .nil))).sound q1
  obtain ⟨x, y, sp, qx, qy⟩ := seps_append.1 q2
  exact ⟨x, y, sp, ⟨_, ⟨m, es, ck, h, rfl⟩, qx⟩, qy⟩

/-- nodes that lie elsewhere don't see where one lies -/
theorem adr_del {D : List HA} {adr adr' : Int → Nat} {i : Int} (m : List (Int × NodeS)) (h : ∀ k, k ≠ i → adr' k = adr k) : (adel m i).map (NodeP D adr') = (adel m i).map (NodeP D adr) := by
  apply List.map_congr_left
  intro x hx
  unfold NodeP
  rw [h x.1 (adel_not m i x hx)]
theorem enc_del {adr adr' : Int → Nat} {i : Int} (m : List (Int × NodeS)) (h : ∀ k, k ≠ i → adr' k = adr k) : (adel m i).map (encN adr') = (adel m i).map (encN adr) := by
  apply List.map_congr_left
  intro x hx
  unfold encN
  rw [h x.1 (adel_not m i x hx)]

theorem adel_map {K V W : Type} [DecidableEq K] (f : K → V → W) (m : List (K × V)) (k : K) : adel (m.map fun x => (x.1, f x.1 x.2)) k = (adel m k).map fun x => (x.1, f x.1 x.2) := by
  unfold adel
  rw [List.filter_map]
  rfl
theorem aget_mapk {K V W : Type} [DecidableEq K] (f : K → V → W) (m : List (K × V)) (k : K) : aget (m.map fun x => (x.1, f x.1 x.2)) k = (aget m k).map (f k) := by
  induction m with
  | nil => rfl
  | cons x m ih =>
    obtain ⟨k', v⟩ := x
    rw [List.map_cons, aget_cons, aget_cons, ih]
    split
    · rename_i h
      subst h
      rfl
    · rfl
theorem aget_enc {adr : Int → Nat} (m : List (Int × NodeS)) (i : Int) : aget (m.map (encN adr)) i = (aget m i).map fun _ => ptr (adr i) := aget_mapk (fun k _ => ptr (adr k)) m i
theorem adel_enc {adr : Int → Nat} (m : List (Int × NodeS)) (i : Int) : adel (m.map (encN adr)) i = (adel m i).map (encN adr) := adel_map (fun k _ => ptr (adr k)) m i

theorem aget_map {K V W : Type} [DecidableEq K] (f : V → W) (m : List (K × V)) (k : K) : aget (m.map fun x => (x.1, f x.2)) k = (aget m k).map f := by
  induction m with
  | nil => rfl
  | cons x m ih =>
    obtain ⟨k', v⟩ := x
    rw [List.map_cons, aget_cons, aget_cons, ih]
    split <;> rfl

/-- what a look into a map finds -/
theorem found_of {z v : Value} {fr : Option (Nat × Value)} {o : Option Value} (h : fr.map Prod.snd = o) : foundV z false fr = o.getD z := by
  subst h
  cases fr with
  | none => rfl
  | some x => rfl

theorem kid_found {n : NodeS} {s : Bytes} {fr : Option (Nat × Value)} (h : fr.map Prod.snd = aget (n.kids.map encV) s) : foundV (.int .i64 0) false fr = .int .i64 (kidOf n s) := by
  rw [found_of (v := .int .i64 0) h]
  have : aget (n.kids.map encV) s = (aget n.kids s).map encI := aget_map encI n.kids s
  rw [this]
  unfold kidOf
  cases aget n.kids s <;> rfl

/-- what is owned is, in some way, so -/
theorem Run.exE {P : Program} {f : FuncId} {n : Nat} {F : Hp} {K : List EI} {l : Fr} {H : List HA} {R : Value → List HA → Prop} {p : Prop} (e : ∀ h, seps H h → p) (r : p → Run P f n F K l H R) : Run P f n F K l H R :=
  fun K' w0 w h a i q fw fa k => r (e h q) K' w0 w h a i q fw fa k

theorem Run.exI {P : Program} {f : FuncId} {n : Nat} {F : Hp} {K : List EI} {l : Fr} {H : List HA} {R : Value → List HA → Prop} {ι : Type} (H' : ι → List HA) (e : ∀ h, seps H h → ∃ j, seps (H' j) h) (r : ∀ j, Run P f n F K l (H' j) R) : Run P f n F K l H R :=
  fun K' w0 w h a i q fw fa k => by
    obtain ⟨j, q2⟩ := e h q
    exact r j K' w0 w h a i q2 fw fa k

theorem Run.treeAt {P : Program} {f : FuncId} {k : Nat} {F : Hp} {K : List EI} {l : Fr} {H : List HA} {R : Value → List HA → Prop} {D : List HA} {t : Nat} {T : TreeS} {adr : Int → Nat} {i : Int} {n : NodeS} (nd : (T.nodes.map Prod.fst).Nodup) (hi : aget T.nodes i = some n)
    (r : ∀ m es ck G fr, MapR encI es ck (T.nodes.map (encN adr)) → NodeI D (adr i) n G → Instr.findNow (.int .i64) (encI i) es 0 = some (some (fr, ptr (adr i))) → Run P f k F K l (G ++ (treeC t m T :: .pt m (.map es.toArray ck) :: ((adel T.nodes i).map (NodeP D adr) ++ H))) R) :
    Run P f k F K l (TreeA D t T adr :: H) R :=
  fun K' w0 w h a i q fw fa k => by
    obtain ⟨m, es, ck, hm, x, y, sp, ⟨G, hG, qG⟩, qr⟩ := tree_at nd hi h q
    obtain ⟨fr, hfr, hg, _, _⟩ := hm.find same_i _
    rw [aget_enc, hi] at hg
    obtain ⟨⟨j, u⟩, rfl, e⟩ := Option.map_eq_some_iff.1 hg
    dsimp only at e
    subst e
    exact r m es ck G j hm hG hfr K' w0 w h a i (seps_append.2 ⟨x, y, sp, qG, qr⟩) fw fa k

end Eng
end Go.Proofs.YtnfomoeicgdkkaaGreatDoor

/- What stands at a path of a tree: the walk. -/
set_option linter.unusedSimpArgs false
set_option linter.unusedVariables false
set_option maxRecDepth 1000000
namespace Go.Proofs.YtnfomoeicgdkkaaGreatDoor
namespace Eng
attribute [local irreducible] Ops Segs Run Spec

theorem rdT_own {F : Hp} {a : Option Addr} {c : Nat} {l : List Bytes} {G : List HA} (h : OwnI a l.length c 1 9 (l.map sv) G) (k : Known G F) : RdT F (.slice a l.length c) l := by
  obtain ⟨_, ⟨ha, h0, hc, hG⟩ | ⟨b, sp, rfl, hc, hcap, rfl⟩⟩ := h
  · exact ⟨a, c, rfl, by omega, .inl (List.length_eq_zero_iff.1 h0)⟩
  · refine ⟨_, c, rfl, hc, .inr ⟨b, 0, _, _, _, rfl, k _ _ m0, fun i x hx => ?_⟩⟩
    have hi : i < l.length := by
      rcases Nat.lt_or_ge i l.length with y | y
      · exact y
      · rw [List.getElem?_eq_none y] at hx; cases hx
    rw [Nat.zero_add, List.getElem?_append_left (by simpa using hi), List.getElem?_map, hx]; rfl

theorem tree_find (D : List HA) (t : Nat) (T : TreeS) (adr : Int → Nat) (N : Nat) (ok : T.Ok N) (p : Bytes) (F : Hp) (g : Glob F) :
    Spec Tryz.prog 96 [ptr t, sv p].toArray F [TreeA D t T adr] fun v H => v = .int .i64 (T.find p) ∧ H = [TreeA D t T adr] := by
  refine Spec.enterC (n := 38) Tryz.func96 rfl (by simp) (by kernel_rfl) fun ec hc => ?_
  cbv at hc
  injection hc with hc
  subst hc
  simp only [argFr, Nat.reduceAdd]
  refine go ?_
  refine Ops.call1 rfl .nil (fun F' e kn => path_Split p F' (g.ext e)) ?_
  intro v G hv
  cases hs : splitP p with
  | none =>
    have hf : T.find p = 0 := by unfold TreeS.find; rw [hs]
    rw [hs] at hv
    obtain ⟨rfl, rfl⟩ := hv
    simp only [List.nil_append]
    refine go ?_
    refine Run.condT rfl ?_
    refine go ?_
    exact Run.ret1 Tryz.func96 rfl rfl (fun h q => q) ⟨by rw [hf], rfl⟩
  | some l =>
    have hf : T.find p = walkT T 1 l := by unfold TreeS.find; rw [hs]
    rw [hs] at hv
    obtain ⟨a, c, rfl, rfl⟩ := hv
    simp only [List.cons_append, List.nil_append]
    refine go1 ?_
    refine Ops.nil (Segs.nil ?_)
    refine Run.open_ s0 fun G hG => ?_
    refine Run.lendD G (take_app G _) fun F1 x1 k1 => ?_
    obtain ⟨a2, c2, he, hc2, hrd⟩ := rdT_own hG k1
    cases he
    clear hG k1
    refine go ?_
    refine Run.condF rfl ?_
    refine go ?_
    obtain ⟨n1, hn1, _⟩ := ok.root
    have hl5 := (splitP_names hs).1
    refine Run.loopI (ι := Nat × Int) (fun x => l.length - x.1) (fun x => x.1 ≤ l.length ∧ (∃ n, aget T.nodes x.2 = some n) ∧ T.find p = walkT T x.2 (l.drop x.1))
      (fun x => [(19, .int .i64 x.1), (18, .int .i64 l.length), (17, .slice a l.length c), (7, .int .i64 x.2), (0, ptr t)])
      (fun x => [TreeA D t T adr]) (0, 1) ⟨Nat.zero_le _, ⟨n1, hn1⟩, hf⟩ (.cons rfl (.cons rfl (.cons rfl (.cons rfl (.cons rfl .nil))))) (fun _ h => h) ?_
    rintro ⟨i, at_⟩ ⟨hi, ⟨n, hn⟩, hw⟩ ih
    have ihn := ih
    clear ih
    dsimp only at hi hn hw ihn ⊢
    refine go ?_
    refine Run.condD rfl (fun hlt => ?_) (fun hge => ?_)
    · have hlt' : i < l.length := by omega
      have hget : l.drop i = l[i] :: l.drop (i + 1) := List.drop_eq_getElem_cons hlt'
      have hel : l[i]? = some l[i] := List.getElem?_eq_getElem hlt'
      rcases hrd with hrd | ⟨b, o, Lc, Tc, fz, rfl, hF, hrd⟩
      · rw [hrd] at hlt'; simp at hlt'
      have hcell := hrd i _ hel
      rw [hget] at hw
      simp only [walkT, hn] at hw
      generalize l[i] = s at *
      refine Run.treeAt ok.keys hn fun m es ck G fr hm hG hfr => ?_
      have hG' := hG
      obtain ⟨x, hx, ⟨hd, hk, rfl⟩ | ⟨r, es2, ck2, hr, rfl⟩⟩ := hG
      · simp only [List.cons_append, List.nil_append]
        have hk0 : kidOf n s = 0 := by unfold kidOf; rw [hk]; rfl
        rw [if_pos hk0] at hw
        refine go ?_
        refine Ops.ixS rfl rfl ⟨by omega, by omega⟩ ?_
        refine Ops.ldF rfl hF (by rw [Int.toNat_natCast, Nat.mul_one]; exact hcell) ?_
        refine go ?_
        refine Ops.lkp rfl rfl m2 hfr ?_
        refine go ?_
        refine Ops.lkpN rfl ?_
        refine go ?_
        refine Run.condT rfl ?_
        refine go ?_
        exact Run.ret1 Tryz.func96 rfl rfl (fun h q => tree_shut ok.keys hn hm hG' h q) ⟨by rw [hw], rfl⟩
      · simp only [List.cons_append, List.nil_append]
        obtain ⟨fr2, hfr2, hg2, _, _⟩ := hr.find same_s s
        refine go ?_
        refine Ops.ixS rfl rfl ⟨by omega, by omega⟩ ?_
        refine Ops.ldF rfl hF (by rw [Int.toNat_natCast, Nat.mul_one]; exact hcell) ?_
        refine go ?_
        refine Ops.lkp rfl rfl m3 hfr ?_
        refine go ?_
        refine Ops.lkp rfl rfl m1 hfr2 ?_
        rw [kid_found hg2]
        refine go ?_
        refine Run.condD rfl (fun h0 => ?_) (fun h0 => ?_)
        · rw [if_pos h0] at hw
          refine go ?_
          exact Run.ret1 Tryz.func96 rfl rfl (fun h q => tree_shut ok.keys hn hm hG' h q) ⟨by rw [hw], rfl⟩
        · rw [if_neg h0] at hw
          refine go ?_
          have hk : ∃ n', aget T.nodes (kidOf n s) = some n' := by
            unfold kidOf at h0 ⊢
            cases hg : aget n.kids s with
            | none => rw [hg] at h0; exact absurd rfl h0
            | some k => exact (ok.kids at_ n s k hn hg).2
          exact Run.lp (Run.again (ihn (i + 1, kidOf n s) (by dsimp only; omega) ⟨by dsimp only; omega, hk, hw⟩) (.cons rfl (.cons rfl (.cons rfl (.cons rfl (.cons rfl .nil))))) (fun h q => tree_shut ok.keys hn hm hG' h q))
    · have : i = l.length := by omega
      subst this
      rw [List.drop_length] at hw
      simp only [walkT] at hw
      refine Run.exit rfl ?_
      refine go ?_
      exact Run.ret1 Tryz.func96 rfl rfl (fun h q => q) ⟨by rw [hw], rfl⟩
end Eng
end Go.Proofs.YtnfomoeicgdkkaaGreatDoor

/- A tree is asked. -/
set_option linter.unusedSimpArgs false
set_option linter.unusedVariables false
set_option maxRecDepth 1000000
namespace Go.Proofs.YtnfomoeicgdkkaaGreatDoor

def TreeS.isDir (T : TreeS) (p : Bytes) : Bool := if T.find p = 0 then false else ((aget T.nodes (T.find p)).map (·.dir)).getD false
/-- a file's bytes, the error's number -/
def TreeS.read (T : TreeS) (p : Bytes) : Bytes × Int := if T.find p = 0 then ([], 8) else match aget T.nodes (T.find p) with
  | none => ([], 8)
  | some n => if n.dir = true then ([], 10) else (n.data, 0)

namespace Eng
section
variable {P : Program} {F : Hp} {l : Fr} {H : List HA} {C : Fr → List HA → Prop} {es : List EG} {i d : Nat} {c : Bool}

theorem closed_segs {segs : List (List EG)} (h : Closed C) : Closed fun l H => Segs P F segs l H C := fun _ _ _ e r => Segs.conseq e h r

/-- whether a slice is nil -/
theorem Ops.nilS {T : TypeId} {x y : Operand} {a : Option Addr} {n m n2 m2 : Nat} (hx : get l x = some (.slice a n m)) (hy : get l y = some (.slice none n2 m2)) (k : Ops P F es ((d, .bool a.isNone) :: l) H C) :
    Ops P F (EG.mk i (some d) none c (.eqv (.slice T) false x y) :: es) l H C := by
  refine Ops.p ?_ k
  simp only [pv, hx, hy]
  cases a <;> rfl
end

attribute [local irreducible] Ops Segs Run Spec

theorem slices_Clone_byte (v : Value) (bs : Bytes) (F : Hp) (hb : RdB F v bs) (hn : bs.length ≤ 1099511627) : Spec Tryz.prog 97 [v].toArray F [] fun r H => H = [RowP r bs] := by
  have hlen := hb.len
  have hsh := fun H => hb.shows (H := H)
  obtain ⟨oa, oc, rfl, hbs⟩ := hb
  refine Spec.enterC (n := 8) Tryz.func97 rfl (by simp) (by kernel_rfl) fun ec hc => ?_
  cbv at hc
  injection hc with hc
  subst hc
  simp only [argFr, Nat.reduceAdd]
  refine go ?_
  refine Ops.nilS rfl rfl ?_
  refine go ?_
  cases oa with
  | none =>
    refine Run.condT rfl ?_
    refine go ?_
    have : bs = [] := by
      rcases hbs with h | ⟨b, o, L, T, fz, h, _⟩
      · exact h
      · cases h
    subst this
    exact Run.ret1 Tryz.func97 (H' := [RowP (.slice none 0 0) []]) rfl rfl (fun h q => row_of_own (a := none) (n := 0) (c := 0) (T := 5) (bs := []) h (own_new h q)) rfl
  | some a =>
    refine Run.condF rfl ?_
    refine go ?_
    refine Ops.lit [] rfl rfl fun b => ?_
    refine Ops.conseq (own_of_pt (n := 0) (s := 1) rfl) (closed_segs closed_run) ?_
    refine go ?_
    refine Ops.app rfl rfl hlen s0 (hsh _) (bvs_one bs) (by rw [bvs_len]; simp) (by simp) (by omega) fun a' c' => ?_
    simp only [List.nil_append, Nat.zero_add]
    refine go ?_
    exact Run.ret1 Tryz.func97 (H' := [RowP (.slice a' bs.length c') bs]) rfl rfl row_of_own rfl

theorem tree_Find (D : List HA) (t : Nat) (T : TreeS) (adr : Int → Nat) (N : Nat) (ok : T.Ok N) (p : Bytes) (F : Hp) (g : Glob F) :
    Spec Tryz.prog 27 [ptr t, sv p].toArray F [TreeA D t T adr] fun v H => v = .tuple [.int .i64 (T.find p), .bool (!decide (T.find p = 0))].toArray ∧ H = [TreeA D t T adr] := by
  refine Spec.enterC (n := 13) Tryz.func27 rfl (by simp) (by kernel_rfl) fun ec hc => ?_
  cbv at hc
  injection hc with hc
  subst hc
  simp only [argFr, Nat.reduceAdd]
  refine go ?_
  refine Ops.call1 rfl (.cons s0 .nil) (fun F' e kn => tree_find D t T adr N ok p F' (g.ext e)) ?_
  rintro v G ⟨rfl, rfl⟩
  simp only [List.cons_append, List.nil_append]
  refine go ?_
  exact Run.ret2 Tryz.func27 rfl rfl rfl (fun h q => q) ⟨rfl, rfl⟩

theorem tree_Nodes (D : List HA) (t : Nat) (T : TreeS) (adr : Int → Nat) (F : Hp) : Spec Tryz.prog 25 [ptr t].toArray F [TreeA D t T adr] fun v H => v = .int .i64 (T.nodes.length : Nat) ∧ H = [TreeA D t T adr] := by
  refine Spec.enterC (n := 8) Tryz.func25 rfl (by simp) (by kernel_rfl) fun ec hc => ?_
  cbv at hc
  injection hc with hc
  subst hc
  simp only [argFr, Nat.reduceAdd]
  refine Run.open_ s0 fun G hG => ?_
  have hG' := hG
  obtain ⟨m, es, ck, h1, rfl⟩ := hG
  simp only [List.cons_append]
  refine go ?_
  refine Ops.lenm rfl m1 ?_
  refine go ?_
  refine Run.ret1 Tryz.func25 rfl rfl (fun h q => fold_app (I := TreeI D t T adr) hG' h q) ⟨?_, rfl⟩
  rw [h1.len, List.length_map]

theorem tree_Dir (D : List HA) (t : Nat) (T : TreeS) (adr : Int → Nat) (N : Nat) (ok : T.Ok N) (p : Bytes) (F : Hp) (g : Glob F) :
    Spec Tryz.prog 94 [ptr t, sv p].toArray F [TreeA D t T adr] fun v H => v = .bool (T.isDir p) ∧ H = [TreeA D t T adr] := by
  have hm := find_mem ok p
  have hd : T.isDir p = if T.find p = 0 then false else ((aget T.nodes (T.find p)).map (·.dir)).getD false := rfl
  refine Spec.enterC (n := 22) Tryz.func94 rfl (by simp) (by kernel_rfl) fun ec hc => ?_
  cbv at hc
  injection hc with hc
  subst hc
  simp only [argFr, Nat.reduceAdd]
  refine go ?_
  refine Ops.call1 rfl (.cons s0 .nil) (fun F' e kn => tree_find D t T adr N ok p F' (g.ext e)) ?_
  rintro v G ⟨rfl, rfl⟩
  simp only [List.cons_append, List.nil_append]
  generalize T.find p = i at *
  refine go1 ?_
  refine Ops.nil (Segs.nil ?_)
  by_cases h0 : i = 0
  · rw [if_pos h0] at hd
    subst h0
    refine go ?_
    exact Run.ret1 Tryz.func94 rfl rfl (fun h q => q) ⟨by rw [hd]; rfl, rfl⟩
  · rw [if_neg h0] at hd
    obtain ⟨n, hn⟩ := hm.resolve_left h0
    rw [hn] at hd
    simp only [Option.map_some, Option.getD_some] at hd
    have e0 : decide (i = 0) = false := decide_eq_false h0
    refine Run.treeAt ok.keys hn fun m es ck G fr hm hG hfr => ?_
    have hG' := hG
    obtain ⟨x, hx, ⟨_, hk, rfl⟩ | ⟨r, es2, ck2, hr, rfl⟩⟩ := hG
    · simp only [List.cons_append, List.nil_append]
      refine go ?_
      simp only [e0]
      refine go ?_
      refine Ops.lkp rfl rfl m2 hfr ?_
      refine go ?_
      exact Run.ret1 Tryz.func94 rfl rfl (fun h q => tree_shut ok.keys hn hm hG' h q) ⟨by rw [hd]; cases n.dir <;> rfl, rfl⟩
    · simp only [List.cons_append, List.nil_append]
      refine go ?_
      simp only [e0]
      refine go ?_
      refine Ops.lkp rfl rfl m3 hfr ?_
      refine go ?_
      exact Run.ret1 Tryz.func94 rfl rfl (fun h q => tree_shut ok.keys hn hm hG' h q) ⟨by rw [hd]; cases n.dir <;> rfl, rfl⟩
/-- what a reading gives, in memory -/
def ReadR (x : Bytes × Int) (v : Value) (H : List HA) : Prop := ∃ u, v = .tuple [u, .int .i64 x.2].toArray ∧ H = [RowP u x.1]

theorem row_none {H : List HA} : ∀ h, seps H h → seps (RowP (.slice none 0 0) [] :: H) h := fun h q => row_of_own (a := none) (n := 0) (c := 0) (T := 5) (bs := []) h (own_new h q)

theorem tree_Read (D : List HA) (t : Nat) (T : TreeS) (adr : Int → Nat) (N : Nat) (ok : T.Ok N) (p : Bytes) (F : Hp) (g : Glob F) (kd : Known D F) :
    Spec Tryz.prog 24 [ptr t, sv p].toArray F [TreeA D t T adr] fun v H => ∃ G, ReadR (T.read p) v G ∧ H = G ++ [TreeA D t T adr] := by
  have hmm := find_mem ok p
  have hd : T.read p = ((if T.find p = 0 then ([], 8) else match aget T.nodes (T.find p) with
    | none => ([], 8)
    | some n => if n.dir = true then ([], 10) else (n.data, 0)) : Bytes × Int) := rfl
  refine Spec.enterC (n := 33) Tryz.func24 rfl (by simp) (by kernel_rfl) fun ec hc => ?_
  cbv at hc
  injection hc with hc
  subst hc
  simp only [argFr, Nat.reduceAdd]
  refine go ?_
  refine Ops.call1 rfl (.cons s0 .nil) (fun F' e kn => tree_find D t T adr N ok p F' (g.ext e)) ?_
  rintro v G ⟨rfl, rfl⟩
  simp only [List.cons_append, List.nil_append]
  generalize T.find p = i at *
  refine go1 ?_
  refine Ops.nil (Segs.nil ?_)
  by_cases h0 : i = 0
  · rw [if_pos h0] at hd
    subst h0
    refine go ?_
    refine Run.condT rfl ?_
    refine go ?_
    exact Run.ret2 Tryz.func24 rfl rfl rfl (H' := [RowP (.slice none 0 0) [], TreeA D t T adr]) row_none ⟨_, ⟨_, by rw [hd], rfl⟩, by rw [hd]; rfl⟩
  · rw [if_neg h0] at hd
    obtain ⟨n, hn⟩ := hmm.resolve_left h0
    rw [hn] at hd
    dsimp only at hd
    have e0 : decide (i = 0) = false := decide_eq_false h0
    have hdl := ok.data i n hn
    refine Run.treeAt ok.keys hn fun m es ck G fr hm hG hfr => ?_
    have hG' := hG
    obtain ⟨x, hx, ⟨_, hk, rfl⟩ | ⟨r, es2, ck2, hr, rfl⟩⟩ := hG
    all_goals simp only [List.cons_append, List.nil_append]
    all_goals refine go ?_
    all_goals refine Run.condF (by simp [get, look, e0]) ?_
    all_goals refine go ?_
    · refine Ops.lkp rfl rfl m2 hfr ?_
      refine go ?_
      cases hdir : n.dir with
      | true =>
        rw [hdir, if_pos rfl] at hd
        refine Run.condT rfl ?_
        refine go ?_
        exact Run.ret2 Tryz.func24 rfl rfl rfl (H' := [RowP (.slice none 0 0) [], TreeA D t T adr]) (fun h q => row_none h (tree_shut ok.keys hn hm hG' h (by simpa [hdir] using q))) ⟨_, ⟨_, by rw [hd], rfl⟩, by rw [hd]; rfl⟩
      | false =>
        rw [hdir, if_neg (by simp)] at hd
        refine Run.condF rfl ?_
        refine go ?_
        refine Ops.lkp rfl rfl m2 hfr ?_
        refine go ?_
        refine Ops.call1 rfl .nil (fun F' e kn => slices_Clone_byte _ n.data F' (hx.2 F' fun b o mm => e _ _ (kd b o mm)) (by omega)) ?_
        rintro v G rfl
        simp only [List.cons_append, List.nil_append]
        refine go ?_
        exact Run.ret2 Tryz.func24 rfl rfl rfl (H' := [RowP v n.data, TreeA D t T adr]) (fun h q => seps_cons (fun h q => tree_shut ok.keys hn hm hG' h (by simpa [hdir] using q)) q) ⟨_, ⟨_, by rw [hd], rfl⟩, by rw [hd]; rfl⟩
    · refine Ops.lkp rfl rfl m3 hfr ?_
      refine go ?_
      cases hdir : n.dir with
      | true =>
        rw [hdir, if_pos rfl] at hd
        refine Run.condT rfl ?_
        refine go ?_
        exact Run.ret2 Tryz.func24 rfl rfl rfl (H' := [RowP (.slice none 0 0) [], TreeA D t T adr]) (fun h q => row_none h (tree_shut ok.keys hn hm hG' h (by simpa [hdir] using q))) ⟨_, ⟨_, by rw [hd], rfl⟩, by rw [hd]; rfl⟩
      | false =>
        rw [hdir, if_neg (by simp)] at hd
        refine Run.condF rfl ?_
        refine go ?_
        refine Ops.lkp rfl rfl m3 hfr ?_
        refine go ?_
        refine Ops.call1 rfl .nil (fun F' e kn => slices_Clone_byte _ n.data F' (hx.2 F' fun b o mm => e _ _ (kd b o mm)) (by omega)) ?_
        rintro v G rfl
        simp only [List.cons_append, List.nil_append]
        refine go ?_
        exact Run.ret2 Tryz.func24 rfl rfl rfl (H' := [RowP v n.data, TreeA D t T adr]) (fun h q => seps_cons (fun h q => tree_shut ok.keys hn hm hG' h (by simpa [hdir] using q)) q) ⟨_, ⟨_, by rw [hd], rfl⟩, by rw [hd]; rfl⟩
end Eng
end Go.Proofs.YtnfomoeicgdkkaaGreatDoor

/- A range over a map: what has come, and that all come. -/
set_option linter.unusedSimpArgs false
set_option linter.unusedVariables false
namespace Go.Proofs.YtnfomoeicgdkkaaGreatDoor
namespace Eng

def Visit {K : Type} (enc : K → Value) (es : List MapEntry) (m : List (K × Value)) (seen : List Nat) (ds : List K) : Prop :=
  ∃ (done rest : List MapEntry) (rs : List K), es.Perm (done ++ rest) ∧ seen = done.map (·.born) ∧ (m.map Prod.fst).Perm (ds ++ rs) ∧ done.map (·.key) = ds.map enc

theorem Visit.start {K : Type} {enc : K → Value} {es : List MapEntry} {m : List (K × Value)} : Visit enc es m [] [] := ⟨[], es, m.map Prod.fst, .refl _, rfl, .refl _, rfl⟩

theorem MapR.ent {K : Type} {enc : K → Value} {es : List MapEntry} {ck : Nat} {m : List (K × Value)} (h : MapR enc es ck m) {e : MapEntry} (he : e ∈ es) : es.find? (fun x => x.born == e.born) = some e := by
  have hb := h.borns
  clear h
  induction es with
  | nil => cases he
  | cons x es ih =>
    rw [List.map_cons, List.nodup_cons] at hb
    cases he with
    | head => simp
    | tail _ he =>
      have hne : (x.born == e.born) = false := by
        rw [beq_eq_false_iff_ne]
        intro e2
        exact hb.1 (List.mem_map.2 ⟨e, he, e2.symm⟩)
      rw [List.find?_cons, hne]
      exact ih he hb.2

theorem MapR.knd {K : Type} [DecidableEq K] {D : TypeDesc} {enc : K → Value} (s : Same D enc) {es : List MapEntry} {ck : Nat} {m : List (K × Value)} (h : MapR enc es ck m) : (es.map (·.key)).Nodup := by
  have p : (es.map (·.key)).Perm ((m.map Prod.fst).map enc) := by
    have := h.perm.map Prod.fst
    simpa [List.map_map, Function.comp_def] using this
  rw [p.nodup_iff]
  have := h.keys
  rw [List.Nodup, List.pairwise_map]
  exact this.imp fun hab e => hab (s.inj e)

theorem Visit.step {K : Type} [DecidableEq K] {D : TypeDesc} {enc : K → Value} (s : Same D enc) {es : List MapEntry} {ck : Nat} {m : List (K × Value)} (h : MapR enc es ck m) {seen : List Nat} {ds : List K} (v : Visit enc es m seen ds) {e : MapEntry} (he : e ∈ es)
    (hs : seen.contains e.born = false) : ∃ k u, (k, u) ∈ m ∧ e.key = enc k ∧ e.val = u ∧ k ∉ ds ∧ Visit enc es m (seen ++ [e.born]) (ds ++ [k]) := by
  obtain ⟨done, rest, rs, h1, rfl, h3, h4⟩ := v
  have hmem := h.perm.mem_iff.1 (List.mem_map.2 ⟨e, he, rfl⟩)
  obtain ⟨⟨k, u⟩, hx, hxe⟩ := List.mem_map.1 hmem
  have e1 : e.key = enc k := (congrArg Prod.fst hxe).symm
  have e2 : e.val = u := (congrArg Prod.snd hxe).symm
  have hrest : e ∈ rest := by
    rcases List.mem_append.1 (h1.mem_iff.1 he) with h | h
    · have : (done.map (·.born)).contains e.born = true := by
        rw [List.contains_iff_mem]
        exact List.mem_map.2 ⟨e, h, rfl⟩
      rw [this] at hs; cases hs
    · exact h
  have hk : k ∉ ds := by
    intro hk
    have hk2 : enc k ∈ done.map (·.key) := by rw [h4]; exact List.mem_map.2 ⟨k, hk, rfl⟩
    have nd := (h1.map (·.key)).nodup_iff.1 (h.knd s)
    rw [List.map_append, List.nodup_append] at nd
    exact nd.2.2 _ hk2 _ (List.mem_map.2 ⟨e, hrest, rfl⟩) e1.symm
  have hkr : k ∈ rs := by
    rcases List.mem_append.1 (h3.mem_iff.1 (List.mem_map.2 ⟨_, hx, rfl⟩)) with h | h
    · exact absurd h hk
    · exact h
  obtain ⟨r1, r2, rfl⟩ := List.mem_iff_append.1 hrest
  obtain ⟨s1, s2, rfl⟩ := List.mem_iff_append.1 hkr
  refine ⟨k, u, hx, e1, e2, hk, done ++ [e], r1 ++ r2, s1 ++ s2, ?_, by simp, ?_, by simp [h4, e1]⟩
  · refine h1.trans ?_
    rw [List.append_assoc]
    exact List.Perm.append_left _ List.perm_middle
  · refine h3.trans ?_
    rw [List.append_assoc]
    exact List.Perm.append_left _ List.perm_middle

theorem Visit.fin {K : Type} {enc : K → Value} {es : List MapEntry} {ck : Nat} {m : List (K × Value)} (h : MapR enc es ck m) {seen : List Nat} {ds : List K} (v : Visit enc es m seen ds) (hall : ∀ e ∈ es, seen.contains e.born = true) : (m.map Prod.fst).Perm ds := by
  obtain ⟨done, rest, rs, h1, rfl, h3, h4⟩ := v
  have hrest : rest = [] := by
    cases rest with
    | nil => rfl
    | cons e rest =>
      have he : e ∈ es := h1.mem_iff.2 (by simp)
      have := hall e he
      rw [List.contains_iff_mem] at this
      have nd := (h1.map (·.born)).nodup_iff.1 h.borns
      rw [List.map_append, List.nodup_append] at nd
      exact absurd rfl (nd.2.2 _ this _ (List.mem_map.2 ⟨e, by simp, rfl⟩))
  subst hrest
  have l1 := h1.length_eq
  have l2 := h3.length_eq
  have l3 := h.len
  have l4 := congrArg List.length h4
  simp at l1 l2 l4
  have : rs = [] := List.length_eq_zero_iff.1 (by omega)
  subst this
  simpa using h3

theorem Visit.len {K : Type} {enc : K → Value} {es : List MapEntry} {m : List (K × Value)} {seen : List Nat} {ds : List K} (v : Visit enc es m seen ds) : seen.length = ds.length ∧ ds.length ≤ m.length := by
  obtain ⟨done, rest, rs, h1, rfl, h3, h4⟩ := v
  have l2 := h3.length_eq
  have l4 := congrArg List.length h4
  simp at l2 l4 ⊢
  omega

end Eng
end Go.Proofs.YtnfomoeicgdkkaaGreatDoor

/- Numbers are sorted in place. -/
set_option linter.unusedSimpArgs false
set_option linter.unusedVariables false
namespace Go.Proofs.YtnfomoeicgdkkaaGreatDoor
namespace Eng
open Go.RowKit Go.Sort

theorem Fits.like {F h : Hp} {w w' : World} (f : Fits F h w) (e : ∀ (k : Nat) (o : Obj), w.heap[k]? = some o → w'.heap[k]? = some o) : Fits F h w' :=
  ⟨f.dis, fun n o x => e n o (f.own n o x), fun n o x => e n o (f.frm n o x)⟩

theorem putCells_list {α : Type} [Inhabited α] (enc : α → Value) (xs : List Value) (ys : List α) (sp : List Value) (hl : ys.length = xs.length) : putCells enc 0 ys.toArray (xs ++ sp).toArray = (ys.map enc ++ sp).toArray := by
  apply Array.ext_getElem?
  intro k
  simp only [putCells, Array.getElem?_mapIdx, List.getElem?_toArray]
  by_cases hk : k < xs.length
  · rw [List.getElem?_append_left hk, List.getElem?_append_left (by simpa [hl] using hk), List.getElem?_map]
    have hk2 : k < ys.length := by omega
    rw [List.getElem?_eq_getElem hk, List.getElem?_eq_getElem hk2]
    simp [hk2]
  · rw [List.getElem?_append_right (by omega), List.getElem?_append_right (by simp; omega), List.length_map, hl]
    have hk2 : ¬ k < ys.length := by omega
    cases sp[k - xs.length]? with
    | none => rfl
    | some x => simp [hk2]

theorem sort_world {α : Type} [Inhabited α] {enc : α → Value} {F h : Hp} {w : World} (f : Fits F h w) {b n : Nat} {xs sp : List Value} {T : TypeId} (hb : h b = some (.cells (xs ++ sp).toArray T (0, 0))) (ys : List α) (hl : ys.length = xs.length) (os : Array Obj) :
    Fits F (upd h b (.cells (ys.map enc ++ sp).toArray T (0, 0))) (grow (putRow enc (Sort.ahead w n) b 0 ys.toArray) os) ∧ Keeps w (grow (putRow enc (Sort.ahead w n) b 0 ys.toArray) os) := by
  have hwb := f.own _ _ hb
  refine ⟨(f.set hb).like fun k o hk => ?_, ?_⟩
  · rw [setBlk_get hwb] at hk
    have hlt : k < w.heap.size := by
      rcases Nat.lt_or_ge k w.heap.size with x | x
      · exact x
      · by_cases e : k = b
        · subst e; rw [Array.getElem?_eq_none x] at hwb; cases hwb
        · rw [if_neg e, Array.getElem?_eq_none x] at hk; cases hk
    simp only [grow, putRow, mapBlock]
    rw [Array.getElem?_append_left (by simpa using hlt), Array.getElem?_modify]
    by_cases e : k = b
    · subst e
      rw [if_pos rfl] at hk
      cases hk
      simp only [Sort.ahead, if_true, hwb, Option.map_some, onCells]
      rw [putCells_list enc xs ys sp hl]
    · rw [if_neg e] at hk
      simp only [Sort.ahead]
      rw [if_neg (fun x => e x.symm)]
      exact hk
  · refine ⟨rfl, rfl, rfl, ?_⟩
    simp [grow, putRow, mapBlock, Sort.ahead]

theorem slices_Sort_int (a : Option Addr) (c : Nat) (zs : List Int) (F : Hp) (hn : zs.length ≤ 1000000000000) : Spec Tryz.prog 95 [.slice a zs.length c].toArray F [OwnS a zs.length c 1 3 (zs.map encI)] fun v H =>
    v = .tuple [].toArray ∧ H = [OwnS a zs.length c 1 3 ((zs.mergeSort fun x y => decide (x ≤ y)).map encI)] := by
  unfold Spec
  intro w h q f
  obtain ⟨x, y, sp0, ⟨G, hG, qG⟩, _⟩ := q
  obtain ⟨hl, ⟨rfl, h0, hc, hG⟩ | ⟨b, sp, rfl, hc, hcap, rfl⟩⟩ := hG
  · have : zs = [] := List.length_eq_zero_iff.1 h0
    subst this
    refine (Tryz.slices_Sort_int_none none c w).mono ?_
    rintro e w' ⟨rfl, rfl⟩
    refine ⟨_, _, h, rfl, ⟨rfl, rfl⟩, ?_, f, Keeps.refl _⟩
    subst hc
    have := own_new (H := []) (s := 1) (T := 3) h trivial
    simpa using this
  · obtain ⟨x1, y1, sp1, hpt, _⟩ := qG
    have hb : h b = some (.cells (zs.map encI ++ sp).toArray 3 (0, 0)) := sp0.left (sp1.left hpt)
    have hwb := f.own _ _ hb
    have hblk : b < w.heap.size := by
      rcases Nat.lt_or_ge b w.heap.size with x | x
      · exact x
      · rw [Array.getElem?_eq_none x] at hwb; cases hwb
    have hH : Holds (Value.int .i64) w b 0 zs.toArray := by
      intro j hj
      have hj2 : j < zs.length := by simpa using hj
      refine ⟨?_, ?_⟩
      · unfold World.cell?
        simp only [hwb, Nat.zero_add]
        simp [hj2, List.getElem?_append_left]
      · simp [World.frozen?, hwb]
    refine (Tryz.slices_Sort_int b 0 c zs w hH hblk (by omega)).mono ?_
    rintro e w' ⟨rfl, n, os, rfl⟩
    have hys : (zs.mergeSort fun x y => decide (x ≤ y)).length = zs.length := List.length_mergeSort _
    obtain ⟨f', k'⟩ := sort_world (enc := Value.int .i64) (n := n) f hb (zs.mergeSort fun x y => decide (x ≤ y)) (by simp [hys]) os
    refine ⟨_, _, _, rfl, ⟨rfl, rfl⟩, ?_, f', k'⟩
    refine ⟨_, noHp, (Split.empty _).symm, ⟨_, ⟨by simp [hys], .inr ⟨b, sp, rfl, hc, by simp [hys] at hcap ⊢; exact hcap, rfl⟩⟩, ?_⟩, trivial⟩
    exact ⟨_, noHp, (Split.empty _).symm, by simp [HA.holds, upd], trivial⟩
end Eng
end Go.Proofs.YtnfomoeicgdkkaaGreatDoor

/- All nodes of a tree are gone through. -/
set_option linter.unusedSimpArgs false
set_option linter.unusedVariables false
set_option maxRecDepth 1000000
namespace Go.Proofs.YtnfomoeicgdkkaaGreatDoor

def usedAt (T : TreeS) (i : Int) : Nat := ((aget T.nodes i).map fun n => n.data.length).getD 0
def TreeS.used (T : TreeS) : Nat := ((T.nodes.map Prod.fst).map (usedAt T)).sum
def looseAt (T : TreeS) (i : Int) : Bool := ((aget T.nodes i).map fun n => decide (n.links = 0)).getD false
def TreeS.loose (T : TreeS) : List Int := ((T.nodes.map Prod.fst).filter (looseAt T)).mergeSort fun x y => decide (x ≤ y)

theorem sort_perm {a b : List Int} (p : a.Perm b) : (a.mergeSort fun x y => decide (x ≤ y)) = b.mergeSort fun x y => decide (x ≤ y) := by
  have ha := List.mergeSort_perm a fun x y => decide (x ≤ y)
  have hb := List.mergeSort_perm b fun x y => decide (x ≤ y)
  have sa := List.pairwise_mergeSort (le := fun x y : Int => decide (x ≤ y)) (by intro a b c; simp; omega) (by intro a b; simp; omega) a
  have sb := List.pairwise_mergeSort (le := fun x y : Int => decide (x ≤ y)) (by intro a b c; simp; omega) (by intro a b; simp; omega) b
  refine List.Perm.eq_of_pairwise (le := fun x y : Int => decide (x ≤ y) = true) ?_ sa sb (ha.trans (p.trans hb.symm))
  intro x y _ _ h1 h2
  simp at h1 h2
  omega

theorem sum_le (f : Int → Nat) (B : Nat) : ∀ (l : List Int), (∀ i ∈ l, f i ≤ B) → (l.map f).sum ≤ B * l.length := by
  intro l
  induction l with
  | nil => intro _; simp
  | cons x l ih =>
    intro h
    have h1 := h x (.head _)
    have h2 := ih fun i hi => h i (.tail _ hi)
    rw [List.map_cons, List.sum_cons, List.length_cons, Nat.mul_add]
    omega

namespace Eng

theorem nodes_pull {D : List HA} {adr : Int → Nat} {m : List (Int × NodeS)} {i : Int} {n : NodeS} (X : List HA) (nd : (m.map Prod.fst).Nodup) (hi : aget m i = some n) : ∀ w, seps (X ++ m.map (NodeP D adr)) w → seps (grp (NodeI D (adr i) n) :: (X ++ (adel m i).map (NodeP D adr))) w := by
  have p := (perm_adel nd (aget_mem hi)).map (NodeP D adr)
  exact seps_perm ((List.Perm.append_left X p).trans (by rw [List.map_cons]; exact List.perm_middle))
theorem nodes_push {D : List HA} {adr : Int → Nat} {m : List (Int × NodeS)} {i : Int} {n : NodeS} (X : List HA) (nd : (m.map Prod.fst).Nodup) (hi : aget m i = some n) {G : List HA} (hG : NodeI D (adr i) n G) : ∀ w, seps (G ++ (X ++ (adel m i).map (NodeP D adr))) w → seps (X ++ m.map (NodeP D adr)) w := by
  have p := (perm_adel nd (aget_mem hi)).map (NodeP D adr)
  intro w q
  exact seps_perm ((List.Perm.append_left X p).trans (by rw [List.map_cons]; exact List.perm_middle)).symm w (fold_app (I := NodeI D (adr i) n) hG w q)

theorem usedAt_le {T : TreeS} {N : Nat} (ok : T.Ok N) (i : Int) : usedAt T i ≤ 4000 := by
  unfold usedAt
  cases h : aget T.nodes i with
  | none => simp
  | some n => exact ok.data i n h

theorem encN_mem {T : TreeS} {N : Nat} (ok : T.Ok N) {adr : Int → Nat} {k : Int} {u : Value} (h : (k, u) ∈ T.nodes.map (encN adr)) : u = ptr (adr k) ∧ ∃ n, aget T.nodes k = some n := by
  obtain ⟨⟨k', n⟩, hx, e⟩ := List.mem_map.1 h
  simp only [encN, Prod.mk.injEq] at e
  obtain ⟨rfl, rfl⟩ := e
  exact ⟨rfl, n, mem_aget ok.keys hx⟩

theorem enc_fst {adr : Int → Nat} (m : List (Int × NodeS)) : (m.map (encN adr)).map Prod.fst = m.map Prod.fst := by
  rw [List.map_map]; rfl

attribute [local irreducible] Ops Segs Run Spec

theorem tree_Used (D : List HA) (t : Nat) (T : TreeS) (adr : Int → Nat) (N : Nat) (ok : T.Ok N) (F : Hp) : Spec Tryz.prog 20 [ptr t].toArray F [TreeA D t T adr] fun v H => v = .int .i64 (T.used : Nat) ∧ H = [TreeA D t T adr] := by
  have hgreat := ok.great
  have hlenN := ok.len
  refine Spec.enterC (n := 23) Tryz.func20 rfl (by simp) (by kernel_rfl) fun ec hc => ?_
  cbv at hc
  injection hc with hc
  subst hc
  simp only [argFr, Nat.reduceAdd]
  refine Run.open_ s0 fun G hG => ?_
  obtain ⟨m, es, ck, h1, rfl⟩ := hG
  have hT : TreeI D t T adr (treeC t m T :: .pt m (.map es.toArray ck) :: T.nodes.map (NodeP D adr)) := ⟨m, es, ck, h1, rfl⟩
  simp only [List.cons_append, List.append_nil]
  refine go ?_
  refine Ops.rngM rfl (.inl m1) fun it => ?_
  refine go1 ?_
  refine Ops.nil (Segs.nil ?_)
  refine Run.block (Run.loopI (ι := List Nat × List Int) (fun x => T.nodes.length - x.2.length) (fun x => Visit encI es (T.nodes.map (encN adr)) x.1 x.2)
    (fun x => [(10, .pointer (some ⟨it, 0, none⟩)), (3, .int .i64 ((x.2.map (usedAt T)).sum : Nat))])
    (fun x => .pt it (.mapIter (some m) ck x.1.toArray ck) :: treeC t m T :: .pt m (.map es.toArray ck) :: T.nodes.map (NodeP D adr)) ([], []) .start (.cons rfl (.cons rfl .nil)) (fun _ h => h) ?_)
  rintro ⟨seen, ds⟩ hv ih
  have ihn := ih
  clear ih
  dsimp only at hv ihn ⊢
  have hlv := hv.len
  have hsum := sum_le (usedAt T) 4000 ds fun i _ => usedAt_le ok i
  rw [List.length_map] at hlv
  refine go ?_
  refine Ops.nxtM (H1 := fun e => .pt it (.mapIter (some m) ck (seen ++ [e.born]).toArray ck) :: treeC t m T :: .pt m (.map es.toArray ck) :: T.nodes.map (NodeP D adr)) rfl (.inl m2) (Nat.le_refl _) h1.lt (fun e => u0) (fun e he hs => ?_) (fun hall => ?_)
  · obtain ⟨k, u, hku, hk1, hk2, hkd, hv2⟩ := hv.step same_i h1 he hs
    obtain ⟨rfl, n, hn⟩ := encN_mem ok hku
    have hv2len := hv2.len
    rw [List.length_map, List.length_append, List.length_append] at hv2len
    simp only [List.length_singleton] at hv2len
    have hent := h1.ent he
    have hu : usedAt T k = n.data.length := by unfold usedAt; rw [hn]; rfl
    have hdl := ok.data k n hn
    refine go ?_
    refine Run.condT rfl ?_
    refine Run.skip ?_
    refine Run.conseq (nodes_pull [_, _, _] ok.keys hn) ?_
    refine Run.open_ s0 fun G hG => ?_
    have hG' := hG
    have hnext := ihn (seen ++ [e.born], ds ++ [k]) (by dsimp only; simp only [List.length_append, List.length_singleton]; omega) hv2
    dsimp only at hnext
    obtain ⟨x, ⟨⟨xa, xc, rfl⟩, _⟩, ⟨_, hk, rfl⟩ | ⟨r, es2, ck2, hr, rfl⟩⟩ := hG
    · simp only [List.cons_append, List.nil_append]
      refine go ?_
      refine Ops.ent rfl m1 (.inl m3) hent ?_
      rw [hk2]
      refine go ?_
      refine Run.lp (Run.again hnext (.cons rfl (.cons ?_ .nil)) (fun h q => nodes_push [_, _, _] ok.keys hn hG' h q))
      simp only [List.map_append, List.map_cons, List.map_nil, List.sum_append, List.sum_cons, List.sum_nil, hu]
      show some (Value.int .i64 _) = _
      congr 2
    · simp only [List.cons_append, List.nil_append]
      refine go ?_
      refine Ops.ent rfl m2 (.inl m4) hent ?_
      rw [hk2]
      refine go ?_
      refine Run.lp (Run.again hnext (.cons rfl (.cons ?_ .nil)) (fun h q => nodes_push [_, _, _] ok.keys hn hG' h q))
      simp only [List.map_append, List.map_cons, List.map_nil, List.sum_append, List.sum_cons, List.sum_nil, hu]
      show some (Value.int .i64 _) = _
      congr 2
  · have hp := hv.fin h1 hall
    rw [enc_fst] at hp
    refine go ?_
    refine Run.condF rfl (Run.exit rfl ?_)
    refine go ?_
    refine Run.ret1 Tryz.func20 rfl rfl (fun h q => fold_app (I := TreeI D t T adr) (R := []) hT h (by rw [List.append_nil]; exact seps_tail q)) ⟨?_, rfl⟩
    unfold TreeS.used
    rw [(hp.map (usedAt T)).sum_nat]
/-- a list of numbers that is owned -/
def IntsP (a : Option Addr) (c : Nat) (l : List Int) : HA := OwnS a l.length c 1 3 (l.map encI)

set_option maxHeartbeats 1000000 in
theorem tree_Loose (D : List HA) (t : Nat) (T : TreeS) (adr : Int → Nat) (N : Nat) (ok : T.Ok N) (F : Hp) : Spec Tryz.prog 22 [ptr t].toArray F [TreeA D t T adr] fun v H =>
    ∃ a c, v = .slice a T.loose.length c ∧ H = [IntsP a c T.loose, TreeA D t T adr] := by
  have hgreat := ok.great
  have hlenN := ok.len
  refine Spec.enterC (n := 28) Tryz.func22 rfl (by simp) (by kernel_rfl) fun ec hc => ?_
  cbv at hc
  injection hc with hc
  subst hc
  simp only [argFr, Nat.reduceAdd]
  refine Run.open_ s0 fun G hG => ?_
  obtain ⟨m, es, ck, h1, rfl⟩ := hG
  have hT : TreeI D t T adr (treeC t m T :: .pt m (.map es.toArray ck) :: T.nodes.map (NodeP D adr)) := ⟨m, es, ck, h1, rfl⟩
  simp only [List.cons_append, List.append_nil]
  refine go ?_
  refine Ops.rngM rfl (.inl m1) fun it => ?_
  refine go1 ?_
  refine Ops.nil (Segs.nil ?_)
  refine Run.block (Run.loopI (ι := List Nat × List Int × Option Addr × Nat) (fun x => T.nodes.length - x.2.1.length) (fun x => Visit encI es (T.nodes.map (encN adr)) x.1 x.2.1)
    (fun x => [(10, .pointer (some ⟨it, 0, none⟩)), (3, .slice x.2.2.1 (x.2.1.filter (looseAt T)).length x.2.2.2)])
    (fun x => .pt it (.mapIter (some m) ck x.1.toArray ck) :: OwnS x.2.2.1 (x.2.1.filter (looseAt T)).length x.2.2.2 1 3 ((x.2.1.filter (looseAt T)).map encI) :: treeC t m T :: .pt m (.map es.toArray ck) :: T.nodes.map (NodeP D adr))
    ([], [], none, 0) .start (.cons rfl (.cons rfl .nil)) (fun h q => seps_swap (own_new h q)) ?_)
  rintro ⟨seen, ds, a, c⟩ hv ih
  have ihn := ih
  clear ih
  dsimp only at hv ihn ⊢
  have hlv := hv.len
  rw [List.length_map] at hlv
  have hfl := List.length_filter_le (looseAt T) ds
  refine go ?_
  refine Ops.nxtM (H1 := fun e => .pt it (.mapIter (some m) ck (seen ++ [e.born]).toArray ck) :: OwnS a (ds.filter (looseAt T)).length c 1 3 ((ds.filter (looseAt T)).map encI) :: treeC t m T :: .pt m (.map es.toArray ck) :: T.nodes.map (NodeP D adr)) rfl (.inl m3) (Nat.le_refl _) h1.lt (fun e => u0) (fun e he hs => ?_) (fun hall => ?_)
  · obtain ⟨k, u, hku, hk1, hk2, hkd, hv2⟩ := hv.step same_i h1 he hs
    obtain ⟨rfl, n, hn⟩ := encN_mem ok hku
    have hv2len := hv2.len
    rw [List.length_map, List.length_append, List.length_append] at hv2len
    simp only [List.length_singleton] at hv2len
    have hent := h1.ent he
    refine go ?_
    refine Run.condT rfl ?_
    refine Run.skip ?_
    refine Run.conseq (nodes_pull [_, _, _, _] ok.keys hn) ?_
    refine Run.open_ s0 fun G hG => ?_
    have hG' := hG
    have hnext := fun a c => ihn (seen ++ [e.born], ds ++ [k], a, c) (by dsimp only; simp only [List.length_append, List.length_singleton]; omega) hv2
    dsimp only at hnext
    obtain ⟨x, ⟨⟨xa, xc, rfl⟩, _⟩, ⟨_, hk, rfl⟩ | ⟨r, es2, ck2, hr, rfl⟩⟩ := hG
    · simp only [List.cons_append, List.nil_append]
      refine go ?_
      refine Ops.ent rfl m1 (.inl m4) hent ?_
      rw [hk1, hk2]
      refine go ?_
      refine Run.condD rfl (fun h0 => ?_) (fun h0 => ?_)
      · have hlo : looseAt T k = true := by unfold looseAt; rw [hn]; simpa using h0
        have hf : (ds ++ [k]).filter (looseAt T) = ds.filter (looseAt T) ++ [k] := by rw [List.filter_append]; simp [hlo]
        refine go ?_
        refine Ops.lit [encI k] rfl rfl fun b1 => ?_
        refine Ops.app (m := 1) (ys := [encI k]) rfl rfl rfl s3 (shows_pt m0 (Nat.le_refl 1) rfl) (fun v hv => by rw [List.mem_singleton] at hv; subst hv; rfl) rfl (by decide) (by omega) fun a2 c2 => ?_
        refine go ?_
        refine Run.lp (Run.again (hnext a2 c2) (.cons rfl (.cons ?_ .nil)) (fun h q => nodes_push [_, _, _, _] ok.keys hn hG' h (seps_tail ((Take.cons s1 (.cons s1 (.cons s1 (.cons s0 (.cons s0 (.cons s0 .nil)))))).sound (by
          have e1 : ((ds ++ [k]).filter (looseAt T)).length = (ds.filter (looseAt T)).length + 1 := by rw [hf]; simp
          have e2 : ((ds ++ [k]).filter (looseAt T)).map encI = (ds.filter (looseAt T)).map encI ++ [encI k] := by rw [hf]; simp
          rw [e1, e2]
          exact q)))))
        have e1 : ((ds ++ [k]).filter (looseAt T)).length = (ds.filter (looseAt T)).length + 1 := by rw [hf]; simp
        rw [e1]
        rfl
      · have hlo : looseAt T k = false := by unfold looseAt; rw [hn]; simpa using h0
        have hf : (ds ++ [k]).filter (looseAt T) = ds.filter (looseAt T) := by rw [List.filter_append]; simp [hlo]
        refine go ?_
        refine Run.lp (Run.again (hnext a c) (.cons rfl (.cons (by rw [hf]; rfl) .nil)) (fun h q => nodes_push [_, _, _, _] ok.keys hn hG' h (by rw [hf]; exact q)))
    · simp only [List.cons_append, List.nil_append]
      refine go ?_
      refine Ops.ent rfl m2 (.inl m5) hent ?_
      rw [hk1, hk2]
      refine go ?_
      refine Run.condD rfl (fun h0 => ?_) (fun h0 => ?_)
      · have hlo : looseAt T k = true := by unfold looseAt; rw [hn]; simpa using h0
        have hf : (ds ++ [k]).filter (looseAt T) = ds.filter (looseAt T) ++ [k] := by rw [List.filter_append]; simp [hlo]
        refine go ?_
        refine Ops.lit [encI k] rfl rfl fun b1 => ?_
        refine Ops.app (m := 1) (ys := [encI k]) rfl rfl rfl s4 (shows_pt m0 (Nat.le_refl 1) rfl) (fun v hv => by rw [List.mem_singleton] at hv; subst hv; rfl) rfl (by decide) (by omega) fun a2 c2 => ?_
        refine go ?_
        refine Run.lp (Run.again (hnext a2 c2) (.cons rfl (.cons ?_ .nil)) (fun h q => nodes_push [_, _, _, _] ok.keys hn hG' h (seps_tail ((Take.cons s1 (.cons s1 (.cons s1 (.cons s1 (.cons s0 (.cons s0 (.cons s0 .nil))))))).sound (by
          have e1 : ((ds ++ [k]).filter (looseAt T)).length = (ds.filter (looseAt T)).length + 1 := by rw [hf]; simp
          have e2 : ((ds ++ [k]).filter (looseAt T)).map encI = (ds.filter (looseAt T)).map encI ++ [encI k] := by rw [hf]; simp
          rw [e1, e2]
          exact q)))))
        have e1 : ((ds ++ [k]).filter (looseAt T)).length = (ds.filter (looseAt T)).length + 1 := by rw [hf]; simp
        rw [e1]
        rfl
      · have hlo : looseAt T k = false := by unfold looseAt; rw [hn]; simpa using h0
        have hf : (ds ++ [k]).filter (looseAt T) = ds.filter (looseAt T) := by rw [List.filter_append]; simp [hlo]
        refine go ?_
        refine Run.lp (Run.again (hnext a c) (.cons rfl (.cons (by rw [hf]; rfl) .nil)) (fun h q => nodes_push [_, _, _, _] ok.keys hn hG' h (by rw [hf]; exact q)))
  · have hp := hv.fin h1 hall
    rw [enc_fst] at hp
    have hlo : T.loose = (ds.filter (looseAt T)).mergeSort fun x y => decide (x ≤ y) := sort_perm (hp.filter _)
    have hll : T.loose.length = (ds.filter (looseAt T)).length := by rw [hlo, List.length_mergeSort]
    refine go ?_
    refine Run.condF rfl (Run.exit rfl ?_)
    refine go ?_
    refine Ops.call1 rfl (.cons s1 .nil) (fun F' e kn => slices_Sort_int a c (ds.filter (looseAt T)) F' (by omega)) ?_
    rintro v G ⟨rfl, rfl⟩
    simp only [List.cons_append, List.nil_append]
    refine go ?_
    refine Run.ret1 Tryz.func22 rfl rfl (H' := [IntsP a c T.loose, TreeA D t T adr]) (fun h q => ?_) ⟨a, c, by rw [hll], rfl⟩
    unfold IntsP
    rw [hll, hlo]
    exact seps_cons (fun h q => fold_app (I := TreeI D t T adr) (R := []) hT h (by rw [List.append_nil]; exact seps_tail q)) q
end Eng
end Go.Proofs.YtnfomoeicgdkkaaGreatDoor

/- Loose nodes are taken away. -/
set_option linter.unusedSimpArgs false
set_option linter.unusedVariables false
set_option maxRecDepth 1000000
namespace Go.Proofs.YtnfomoeicgdkkaaGreatDoor

def reap1 (T : TreeS) (i : Int) : TreeS := if looseAt T i = true then { T with nodes := adel T.nodes i } else T
def reapAll (T : TreeS) (ids : List Int) : TreeS := ids.foldl reap1 T

theorem reap1_keys {T : TreeS} (h : (T.nodes.map Prod.fst).Nodup) (i : Int) : ((reap1 T i).nodes.map Prod.fst).Nodup := by
  unfold reap1
  split
  · exact adel_nodup h i
  · exact h
theorem reapAll_keys : ∀ (ids : List Int) {T : TreeS}, (T.nodes.map Prod.fst).Nodup → ((reapAll T ids).nodes.map Prod.fst).Nodup
  | [], _, h => h
  | i :: ids, _, h => reapAll_keys ids (reap1_keys h i)
theorem reapAll_snoc (T : TreeS) (ids : List Int) (i : Int) : reapAll T (ids ++ [i]) = reap1 (reapAll T ids) i := by
  unfold reapAll; rw [List.foldl_append]; rfl

namespace Eng

/-- numbers that can be read in the frame -/
def RdN (F : Hp) (v : Value) (l : List Int) : Prop := ∃ a c, v = .slice a l.length c ∧
  (l = [] ∨ ∃ b o L T fz, a = some ⟨b, o, none⟩ ∧ F b = some (.cells (List.toArray L) T fz) ∧ ∀ i x, l[i]? = some x → L[o + i]? = some (encI x))
theorem RdN.ext {F F' : Hp} (e : Ext F F') {v : Value} {l : List Int} (h : RdN F v l) : RdN F' v l := by
  obtain ⟨a, c, hv, h | ⟨b, o, L, T, fz, ha, hF, hr⟩⟩ := h
  · exact ⟨a, c, hv, .inl h⟩
  · exact ⟨a, c, hv, .inr ⟨b, o, L, T, fz, ha, e _ _ hF, hr⟩⟩

/-- a tree is closed that has one node less -/
theorem tree_less {D : List HA} {t m : Nat} {T : TreeS} {adr : Int → Nat} {i : Int} {H : List HA} {es : List MapEntry} {ck : Nat} (h : MapR encI es ck ((adel T.nodes i).map (encN adr))) :
    ∀ w, seps (treeC t m T :: .pt m (.map es.toArray ck) :: ((adel T.nodes i).map (NodeP D adr) ++ H)) w → seps (TreeA D t { T with nodes := adel T.nodes i } adr :: H) w := by
  intro w q
  obtain ⟨x, y, sp, qx, qy⟩ := seps_append.1 (show seps ((treeC t m T :: .pt m (.map es.toArray ck) :: (adel T.nodes i).map (NodeP D adr)) ++ H) w from q)
  exact ⟨x, y, sp, ⟨_, ⟨m, es, ck, h, rfl⟩, qx⟩, qy⟩

attribute [local irreducible] Ops Segs Run Spec

set_option maxHeartbeats 1000000 in
theorem tree_Reap (D : List HA) (t : Nat) (T : TreeS) (adr : Int → Nat) (nd : (T.nodes.map Prod.fst).Nodup) (v : Value) (ids : List Int) (F : Hp) (hv : RdN F v ids) (hlen : ids.length ≤ 1000000000000) :
    Spec Tryz.prog 148 [ptr t, v].toArray F [TreeA D t T adr] fun v H => v = .tuple [].toArray ∧ H = [TreeA D t (reapAll T ids) adr] := by
  obtain ⟨oa, oc, rfl, hrd⟩ := hv
  refine Spec.enterC (n := 34) Tryz.func148 rfl (by simp) (by kernel_rfl) fun ec hc => ?_
  cbv at hc
  injection hc with hc
  subst hc
  simp only [argFr, Nat.reduceAdd]
  refine go ?_
  refine Run.loopI (ι := Nat) (fun x => ids.length - x) (fun x => x ≤ ids.length)
    (fun x => [(9, .int .i64 x), (8, .int .i64 ids.length), (7, .slice oa ids.length oc), (0, ptr t)])
    (fun x => [TreeA D t (reapAll T (ids.take x)) adr]) 0 (Nat.zero_le _) (.cons rfl (.cons rfl (.cons rfl (.cons rfl .nil)))) (fun _ h => h) ?_
  rintro i hi ih
  have ihn := ih
  clear ih
  try dsimp only at hi ihn ⊢
  refine go ?_
  refine Run.condD rfl (fun hlt => ?_) (fun hge => ?_)
  · have hlt' : i < ids.length := by omega
    have hel : ids[i]? = some ids[i] := List.getElem?_eq_getElem hlt'
    have htk : ids.take (i + 1) = ids.take i ++ [ids[i]] := List.take_succ_eq_append_getElem hlt'
    rcases hrd with hrd | ⟨b, o, Lc, Tc, fz, rfl, hF, hrd⟩
    · rw [hrd] at hlt'; simp at hlt'
    have hcell := hrd i _ hel
    have hnext := ihn (i + 1) (by omega) (by omega)
    rw [htk, reapAll_snoc] at hnext
    clear ihn htk
    have nd1 := reapAll_keys (ids.take i) nd
    generalize reapAll T (ids.take i) = T1 at *
    generalize ids[i] = k at *
    cases hk : aget T1.nodes k with
    | none =>
      have hr : reap1 T1 k = T1 := by unfold reap1 looseAt; rw [hk]; rfl
      rw [hr] at hnext
      refine Run.open_ s0 fun G hG => ?_
      obtain ⟨m, es, ck, h1, rfl⟩ := hG
      have hT : TreeI D t T1 adr (treeC t m T1 :: .pt m (.map es.toArray ck) :: T1.nodes.map (NodeP D adr)) := ⟨m, es, ck, h1, rfl⟩
      obtain ⟨fr, hfr, hg, _, _⟩ := h1.find same_i k
      rw [aget_enc, hk] at hg
      have hfn : fr = none := by cases fr with | none => rfl | some x => cases hg
      subst hfn
      simp only [List.cons_append, List.append_nil]
      refine go ?_
      refine Ops.ixS rfl rfl ⟨by omega, by omega⟩ ?_
      refine Ops.ldF rfl hF (by rw [Int.toNat_natCast, Nat.mul_one]; exact hcell) ?_
      refine go ?_
      refine Ops.lkp rfl rfl m1 hfr ?_
      refine go ?_
      refine Run.condF rfl ?_
      refine go ?_
      exact Run.lp (Run.again hnext (.cons rfl (.cons rfl (.cons rfl (.cons rfl .nil)))) (fun h q => fold_app (I := TreeI D t T1 adr) (R := []) hT h (by rw [List.append_nil]; exact q)))
    | some n =>
      have hlo : looseAt T1 k = decide (n.links = 0) := by unfold looseAt; rw [hk]; rfl
      refine Run.treeAt nd1 hk fun m es ck G fr h1 hG hfr => ?_
      have hG' := hG
      obtain ⟨fr2, hfr2, hg2, _, hdel⟩ := h1.find same_i k
      rw [adel_enc] at hdel
      have : fr2 = some (fr, ptr (adr k)) := by
        have e : Instr.findNow (.int .i64) (encI k) es 0 = some fr2 := hfr2
        rw [hfr] at e
        cases e; rfl
      subst this
      obtain ⟨x, ⟨⟨xa, xc, rfl⟩, _⟩, ⟨_, hkk, rfl⟩ | ⟨r, es2, ck2, hr, rfl⟩⟩ := hG
      · simp only [List.cons_append, List.nil_append]
        refine go ?_
        refine Ops.ixS rfl rfl ⟨by omega, by omega⟩ ?_
        refine Ops.ldF rfl hF (by rw [Int.toNat_natCast, Nat.mul_one]; exact hcell) ?_
        refine go ?_
        refine Ops.lkp rfl rfl m2 hfr ?_
        refine go ?_
        refine Run.condD (p := n.links = 0) rfl (fun h0 => ?_) (fun h0 => ?_)
        · have hr : reap1 T1 k = { T1 with nodes := adel T1.nodes k } := by unfold reap1; rw [hlo, if_pos (by simpa using h0)]
          rw [hr] at hnext
          refine go ?_
          refine Ops.del rfl rfl hfr u2 ?_
          refine go ?_
          exact Run.lp (Run.again hnext (.cons rfl (.cons rfl (.cons rfl (.cons rfl .nil)))) (fun h q => tree_less hdel h (seps_tail q)))
        · have hr : reap1 T1 k = T1 := by unfold reap1; rw [hlo, if_neg (by simpa using h0)]
          rw [hr] at hnext
          refine go ?_
          exact Run.lp (Run.again hnext (.cons rfl (.cons rfl (.cons rfl (.cons rfl .nil)))) (fun h q => tree_shut nd1 hk h1 hG' h q))
      · simp only [List.cons_append, List.nil_append]
        refine go ?_
        refine Ops.ixS rfl rfl ⟨by omega, by omega⟩ ?_
        refine Ops.ldF rfl hF (by rw [Int.toNat_natCast, Nat.mul_one]; exact hcell) ?_
        refine go ?_
        refine Ops.lkp rfl rfl m3 hfr ?_
        refine go ?_
        refine Run.condD (p := n.links = 0) rfl (fun h0 => ?_) (fun h0 => ?_)
        · have hr : reap1 T1 k = { T1 with nodes := adel T1.nodes k } := by unfold reap1; rw [hlo, if_pos (by simpa using h0)]
          rw [hr] at hnext
          refine go ?_
          refine Ops.del rfl rfl hfr u3 ?_
          refine go ?_
          exact Run.lp (Run.again hnext (.cons rfl (.cons rfl (.cons rfl (.cons rfl .nil)))) (fun h q => tree_less hdel h (seps_tail (seps_tail q))))
        · have hr : reap1 T1 k = T1 := by unfold reap1; rw [hlo, if_neg (by simpa using h0)]
          rw [hr] at hnext
          refine go ?_
          exact Run.lp (Run.again hnext (.cons rfl (.cons rfl (.cons rfl (.cons rfl .nil)))) (fun h q => tree_shut nd1 hk h1 hG' h q))
  · have : i = ids.length := by omega
    subst this
    rw [List.take_length]
    refine Run.exit rfl ?_
    refine go ?_
    exact Run.done0 Tryz.func148 rfl (fun h q => q) ⟨rfl, rfl⟩
end Eng
end Go.Proofs.YtnfomoeicgdkkaaGreatDoor

/- The directory in which a path stands. -/
set_option linter.unusedSimpArgs false
set_option linter.unusedVariables false
set_option maxRecDepth 1000000
namespace Go.Proofs.YtnfomoeicgdkkaaGreatDoor

/-- the directory's number, the name in it, the error's number -/
def TreeS.place (T : TreeS) (p : Bytes) : Int × Bytes × Int := match parentP p with
  | none => (0, [], 14)
  | some (d, s) => if T.find d = 0 then (0, [], 8) else if ((aget T.nodes (T.find d)).map (·.dir)).getD false = false then (0, [], 11) else (T.find d, s, 0)

theorem place_dir {T : TreeS} {N : Nat} (ok : T.Ok N) {p s : Bytes} {d : Int} (h : T.place p = (d, s, 0)) : ∃ n, aget T.nodes d = some n ∧ n.dir = true := by
  unfold TreeS.place at h
  cases hp : parentP p with
  | none => rw [hp] at h; simp at h
  | some x =>
    obtain ⟨q, s'⟩ := x
    rw [hp] at h
    dsimp only at h
    split at h
    · simp at h
    · rename_i h0
      obtain ⟨n, hn⟩ := (find_mem ok q).resolve_left h0
      rw [hn] at h
      split at h
      · simp at h
      · rename_i hd
        simp only [Prod.mk.injEq] at h
        obtain ⟨rfl, _, _⟩ := h
        refine ⟨n, hn, ?_⟩
        simpa using hd

namespace Eng
attribute [local irreducible] Ops Segs Run Spec

def placeV (adr : Int → Nat) (x : Int × Bytes × Int) : Value := .tuple [if x.2.2 = 0 then ptr (adr x.1) else .pointer none, sv x.2.1, .int .i64 x.2.2].toArray

theorem tree_place (D : List HA) (t : Nat) (T : TreeS) (adr : Int → Nat) (N : Nat) (ok : T.Ok N) (p : Bytes) (F : Hp) (g : Glob F) :
    Spec Tryz.prog 198 [ptr t, sv p].toArray F [TreeA D t T adr] fun v H => v = placeV adr (T.place p) ∧ H = [TreeA D t T adr] := by
  have hpl : T.place p = ((match parentP p with
    | none => (0, [], 14)
    | some (d, s) => if T.find d = 0 then (0, [], 8) else if ((aget T.nodes (T.find d)).map (·.dir)).getD false = false then (0, [], 11) else (T.find d, s, 0)) : Int × Bytes × Int) := rfl
  refine Spec.enterC (n := 43) Tryz.func198 rfl (by simp) (by kernel_rfl) fun ec hc => ?_
  cbv at hc
  injection hc with hc
  subst hc
  simp only [argFr, Nat.reduceAdd]
  refine go ?_
  refine Ops.call1 rfl .nil (fun F' e kn => path_Parent p F' (g.ext e)) ?_
  rintro v G ⟨rfl, hv⟩
  simp only [List.nil_append]
  cases hp : parentP p with
  | none =>
    rw [hp] at hv hpl
    subst hv
    refine go ?_
    refine Run.condT rfl ?_
    refine go ?_
    exact Run.ret Tryz.func198 (rs := [.tmp 4, .tmp 5, .tmp 6]) rfl (.tmp rfl (.tmp rfl (.tmp rfl .nil))) (fun h q => q) ⟨by rw [hpl]; rfl, rfl⟩
  | some x =>
    obtain ⟨d, s⟩ := x
    rw [hp] at hv hpl
    subst hv
    dsimp only at hpl
    refine go ?_
    refine Run.condF rfl ?_
    refine go ?_
    refine Ops.call1 rfl (.cons s0 .nil) (fun F' e kn => tree_find D t T adr N ok d F' (g.ext e)) ?_
    rintro v G ⟨rfl, rfl⟩
    simp only [List.cons_append, List.nil_append]
    have hmm := find_mem ok d
    generalize T.find d = i at *
    refine go1 ?_
    refine Ops.nil (Segs.nil ?_)
    by_cases h0 : i = 0
    · rw [if_pos h0] at hpl
      subst h0
      refine go ?_
      refine Run.condT rfl ?_
      refine go ?_
      exact Run.ret Tryz.func198 (rs := [.tmp 4, .tmp 5, .tmp 6]) rfl (.tmp rfl (.tmp rfl (.tmp rfl .nil))) (fun h q => q) ⟨by rw [hpl]; rfl, rfl⟩
    · rw [if_neg h0] at hpl
      obtain ⟨n, hn⟩ := hmm.resolve_left h0
      rw [hn] at hpl
      simp only [Option.map_some, Option.getD_some] at hpl
      have e0 : decide (i = 0) = false := decide_eq_false h0
      refine Run.treeAt ok.keys hn fun m es ck G fr h1 hG hfr => ?_
      have hG' := hG
      obtain ⟨x, hx, ⟨hdf, hk, rfl⟩ | ⟨r, es2, ck2, hr, rfl⟩⟩ := hG
      · rw [if_pos hdf] at hpl
        simp only [List.cons_append, List.nil_append]
        refine go ?_
        refine Run.condF (by simp [get, look, e0]) ?_
        refine go ?_
        refine Ops.lkp rfl rfl m2 hfr ?_
        refine go ?_
        refine Run.condT (by simp [get, look, hdf]) ?_
        refine go ?_
        exact Run.ret Tryz.func198 (rs := [.tmp 4, .tmp 5, .tmp 6]) rfl (.tmp rfl (.tmp rfl (.tmp rfl .nil))) (fun h q => tree_shut ok.keys hn h1 hG' h q) ⟨by rw [hpl]; rfl, rfl⟩
      · simp only [List.cons_append, List.nil_append]
        refine go ?_
        refine Run.condF (by simp [get, look, e0]) ?_
        refine go ?_
        refine Ops.lkp rfl rfl m3 hfr ?_
        refine go ?_
        cases hdir : n.dir with
        | false =>
          rw [if_pos hdir] at hpl
          refine Run.condT rfl ?_
          refine go ?_
          exact Run.ret Tryz.func198 (rs := [.tmp 4, .tmp 5, .tmp 6]) rfl (.tmp rfl (.tmp rfl (.tmp rfl .nil))) (fun h q => tree_shut ok.keys hn h1 hG' h (by simpa [hdir] using q)) ⟨by rw [hpl]; rfl, rfl⟩
        | true =>
          rw [if_neg (by simp [hdir])] at hpl
          refine Run.condF rfl ?_
          refine go ?_
          refine Ops.lkp rfl rfl m3 hfr ?_
          refine go ?_
          exact Run.ret Tryz.func198 (rs := [.tmp 4, .tmp 5, .tmp 6]) rfl (.tmp rfl (.tmp rfl (.tmp rfl .nil))) (fun h q => tree_shut ok.keys hn h1 hG' h (by simpa [hdir] using q)) ⟨by rw [hpl]; rfl, rfl⟩
end Eng
end Go.Proofs.YtnfomoeicgdkkaaGreatDoor

/- A node comes into a directory. -/
set_option linter.unusedSimpArgs false
set_option linter.unusedVariables false
set_option maxRecDepth 1000000
namespace Go.Proofs.YtnfomoeicgdkkaaGreatDoor

def mkT (T : TreeS) (d : Int) (nd : NodeS) (s : Bytes) (n : NodeS) : TreeS :=
  { nodes := (d, { nd with kids := aput nd.kids s T.next }) :: (T.next, n) :: adel T.nodes d, next := T.next + 1, quota := T.quota }

theorem adel_perm_map {K V W : Type} [DecidableEq K] (f : K × V → W) {m : List (K × V)} (nd : (m.map Prod.fst).Nodup) {k : K} {v : V} (h : aget m k = some v) : (m.map f).Perm (f (k, v) :: (adel m k).map f) :=
  (perm_adel nd (aget_mem h)).map f

namespace Eng

theorem encV_put (l : List (Bytes × Int)) (s : Bytes) (k : Int) : aput (l.map encV) s (encI k) = (aput l s k).map encV := by
  unfold aput
  rw [List.map_cons]
  congr 1
  exact adel_map (fun _ v => encI v) l s
theorem encV_del (l : List (Bytes × Int)) (s : Bytes) : adel (l.map encV) s = (adel l s).map encV := adel_map (fun _ v => encI v) l s

theorem adr_cong {D : List HA} {adr adr' : Int → Nat} (m : List (Int × NodeS)) (h : ∀ x ∈ m, adr' x.1 = adr x.1) : m.map (NodeP D adr') = m.map (NodeP D adr) := by
  apply List.map_congr_left
  intro x hx
  unfold NodeP
  rw [h x hx]
theorem enc_cong {adr adr' : Int → Nat} (m : List (Int × NodeS)) (h : ∀ x ∈ m, adr' x.1 = adr x.1) : m.map (encN adr') = m.map (encN adr) := by
  apply List.map_congr_left
  intro x hx
  unfold encN
  rw [h x hx]

def atOf (adr : Int → Nat) (k : Int) (b : Nat) : Int → Nat := fun i => if i = k then b else adr i

attribute [local irreducible] Ops Segs Run Spec

theorem tree_make (D : List HA) (t : Nat) (T : TreeS) (adr : Int → Nat) (keys : (T.nodes.map Prod.fst).Nodup) (d : Int) (nd : NodeS) (hd : aget T.nodes d = some nd) (hdir : nd.dir = true) (hnew : aget T.nodes T.next = none)
    (hnx : -1000000000000 ≤ T.next ∧ T.next ≤ 1000000000000) (s : Bytes) (b : Nat) (n : NodeS) (F : Hp) :
    Spec Tryz.prog 199 [ptr t, ptr (adr d), sv s, ptr b].toArray F [TreeA D t T adr, grp (NodeI D b n)] fun v H => v = .tuple [].toArray ∧ H = [TreeA D t (mkT T d nd s n) (atOf adr T.next b)] := by
  have hne : d ≠ T.next := by intro e; rw [← e, hd] at hnew; cases hnew
  have hno := aget_none.1 hnew
  refine Spec.enterC (n := 33) Tryz.func199 rfl (by simp) (by kernel_rfl) fun ec hc => ?_
  cbv at hc
  injection hc with hc
  subst hc
  simp only [argFr, Nat.reduceAdd]
  refine Run.treeAt keys hd fun m es ck G fr h1 hG hfr => ?_
  obtain ⟨x, hx, ⟨hdf, _, _⟩ | ⟨r, es2, ck2, hr, rfl⟩⟩ := hG
  · rw [hdir] at hdf; cases hdf
  simp only [List.cons_append, List.nil_append]
  obtain ⟨fr1, hf1, hg1, hput, _⟩ := h1.find same_i T.next
  rw [aget_enc, hnew] at hg1
  have : fr1 = none := by cases fr1 with | none => rfl | some x => cases hg1
  subst this
  obtain ⟨fr2, hf2, _, hput2, _⟩ := hr.find same_s s
  refine go ?_
  refine Segs.lend [_] (.cons s2 .nil) fun F1 x1 k1 => ?_
  refine go1 ?_
  refine Ops.ldF rfl (k1 _ _ m0) rfl ?_
  refine go1 ?_
  refine Ops.ldF rfl (k1 _ _ m0) rfl ?_
  refine Ops.nil (Segs.oneS rfl ?_)
  simp only [List.cons_append, List.nil_append]
  refine Ops.mup rfl rfl rfl hf1 u3 ?_
  refine go ?_
  refine Segs.lend [_, _] (.cons s0 (.cons s0 .nil)) fun F1 x1 k1 => ?_
  refine go1 ?_
  refine Ops.ldF rfl (k1 _ _ m1) rfl ?_
  refine go1 ?_
  refine Ops.ldF rfl (k1 _ _ m0) rfl ?_
  refine Ops.nil (Segs.oneS rfl ?_)
  simp only [List.cons_append, List.nil_append]
  refine Ops.mup rfl rfl rfl hf2 u2 ?_
  refine go ?_
  refine Run.done0 Tryz.func199 rfl (fun h q => ?_) ⟨rfl, rfl⟩
  have hnd' : NodeI D (atOf adr T.next b d) { nd with kids := aput nd.kids s T.next } [.pt (adr d) (.cells [.bool nd.dir, .int .i64 nd.links, x, .map (some r)].toArray 172 (0, 0)), .pt r (.map (mapPut es2 ck2 (sv s) (encI T.next) fr2).toArray (mapClock ck2 fr2))] := by
    unfold atOf
    rw [if_neg hne]
    refine ⟨x, hx, .inr ⟨r, _, _, ?_, rfl⟩⟩
    have := hput2 (encI T.next)
    rw [encV_put] at this
    exact this
  have hadel : ∀ y ∈ adel T.nodes d, atOf adr T.next b y.1 = adr y.1 := by
    intro y hy
    unfold atOf
    rw [if_neg]
    unfold adel at hy
    exact hno y (List.mem_filter.1 hy).1
  have q1 := fold_grp (I := NodeI D (atOf adr T.next b d) { nd with kids := aput nd.kids s T.next }) (.cons s1 (.cons s1 .nil)) hnd' h q
  have q2 := (Take.cons s1 (.cons s1 (.cons s0 .nil))).sound q1
  have q3 := seps_perm (List.Perm.append_left [_, _, _] (List.perm_append_singleton _ _)) h q2
  refine ⟨_, noHp, (Split.empty _).symm, ⟨_, ⟨m, mapPut es ck (encI T.next) (ptr b) none, mapClock ck none, ?_, rfl⟩, ?_⟩, trivial⟩
  · have hp := hput (ptr b)
    unfold aput at hp
    rw [adel_none (by
      intro y hy
      obtain ⟨z, hz, rfl⟩ := List.mem_map.1 hy
      exact hno z hz)] at hp
    refine hp.perm' ?_
    unfold mkT
    rw [List.map_cons, List.map_cons, enc_cong _ hadel]
    have e1 : encN (atOf adr T.next b) (T.next, n) = (T.next, ptr b) := by unfold encN atOf; simp
    have e2 : encN (atOf adr T.next b) (d, { nd with kids := aput nd.kids s T.next }) = encN adr (d, nd) := by unfold encN atOf; simp [hne]
    rw [e1, e2]
    exact ((adel_perm_map (encN adr) keys hd).cons _).trans (.swap _ _ _)
  · unfold mkT
    rw [List.map_cons, List.map_cons, adr_cong _ hadel]
    have e1 : NodeP D (atOf adr T.next b) (T.next, n) = grp (NodeI D b n) := by unfold NodeP atOf; simp
    rw [e1]
    exact q3
end Eng
end Go.Proofs.YtnfomoeicgdkkaaGreatDoor

/- One node of a tree is turned. -/
set_option linter.unusedSimpArgs false
set_option linter.unusedVariables false
namespace Go.Proofs.YtnfomoeicgdkkaaGreatDoor

def updN (T : TreeS) (i : Int) (f : NodeS → NodeS) : TreeS := match aget T.nodes i with
  | none => T
  | some n => { T with nodes := aput T.nodes i (f n) }

theorem aget_aput {K V : Type} [DecidableEq K] (m : List (K × V)) (k k' : K) (v : V) : aget (aput m k v) k' = if k = k' then some v else aget m k' := by
  unfold aput
  rw [aget_cons]
  by_cases h : k = k'
  · rw [if_pos h, if_pos h]
  · rw [if_neg h, if_neg h]
    unfold aget adel
    congr 1
    rw [List.find?_filter]
    apply congrArg (fun f => List.find? f m)
    funext x
    by_cases e : x.1 = k'
    · have : x.1 ≠ k := fun e2 => h (by rw [← e2, e])
      simp [e, this]
      exact fun e2 => h e2.symm
    · simp [e]

theorem updN_get {T : TreeS} {i : Int} {n : NodeS} (hi : aget T.nodes i = some n) (f : NodeS → NodeS) (k : Int) : aget (updN T i f).nodes k = if i = k then some (f n) else aget T.nodes k := by
  unfold updN
  rw [hi]
  exact aget_aput _ _ _ _

theorem updN_keys {T : TreeS} (h : (T.nodes.map Prod.fst).Nodup) (i : Int) (f : NodeS → NodeS) : ((updN T i f).nodes.map Prod.fst).Nodup := by
  unfold updN
  cases aget T.nodes i with
  | none => exact h
  | some n => exact aput_nodup h i _

theorem updN_next (T : TreeS) (i : Int) (f : NodeS → NodeS) : (updN T i f).next = T.next ∧ (updN T i f).quota = T.quota := by
  unfold updN
  cases aget T.nodes i <;> exact ⟨rfl, rfl⟩

namespace Eng

/-- a node's names in memory -/
def KidsI (km : Option Nat) (n : NodeS) (ks : List HA) : Prop := (km = none ∧ n.dir = false ∧ n.kids = [] ∧ ks = []) ∨ ∃ r es ck, km = some r ∧ MapR sv es ck (n.kids.map encV) ∧ ks = [.pt r (.map (List.toArray es) ck)]

abbrev nodeC (a : Nat) (n : NodeS) (x : Value) (km : Option Nat) : HA := .pt a (.cells [.bool n.dir, .int .i64 n.links, x, .map km].toArray 172 (0, 0))

theorem NodeI.kids {D : List HA} {a : Nat} {n : NodeS} {G : List HA} (h : NodeI D a n G) : ∃ x km ks, DataR D x n.data ∧ KidsI km n ks ∧ G = nodeC a n x km :: ks := by
  obtain ⟨x, hx, ⟨h1, h2, rfl⟩ | ⟨r, es, ck, h1, rfl⟩⟩ := h
  · exact ⟨x, none, [], hx, .inl ⟨rfl, h1, h2, rfl⟩, rfl⟩
  · exact ⟨x, some r, _, hx, .inr ⟨r, es, ck, rfl, h1, rfl⟩, rfl⟩

theorem KidsI.node {D : List HA} {a : Nat} {n : NodeS} {x : Value} {km : Option Nat} {ks : List HA} (hx : DataR D x n.data) (h : KidsI km n ks) : NodeI D a n (nodeC a n x km :: ks) := by
  rcases h with ⟨rfl, h1, h2, rfl⟩ | ⟨r, es, ck, rfl, h1, rfl⟩
  · exact ⟨x, hx, .inl ⟨h1, h2, rfl⟩⟩
  · exact ⟨x, hx, .inr ⟨r, es, ck, h1, rfl⟩⟩

theorem KidsI.dir {km : Option Nat} {n : NodeS} {ks : List HA} (h : KidsI km n ks) (hd : n.dir = true) : ∃ r es ck, km = some r ∧ MapR sv es ck (n.kids.map encV) ∧ ks = [.pt r (.map (List.toArray es) ck)] := by
  rcases h with ⟨_, h1, _⟩ | h
  · rw [hd] at h1; cases h1
  · exact h

theorem perm_front (a b c : HA) (ks R : List HA) : (a :: b :: c :: (ks ++ R)).Perm ((a :: ks) ++ (b :: c :: R)) := by
  refine List.Perm.cons _ ?_
  exact (List.Perm.cons _ List.perm_middle.symm).trans List.perm_middle.symm

theorem Run.treeAt2 {P : Program} {f : FuncId} {k : Nat} {F : Hp} {K : List EI} {l : Fr} {H : List HA} {R : Value → List HA → Prop} {D : List HA} {t : Nat} {T : TreeS} {adr : Int → Nat} {i : Int} {n : NodeS} (nd : (T.nodes.map Prod.fst).Nodup) (hi : aget T.nodes i = some n)
    (r : ∀ m es ck x km ks fr, MapR encI es ck (T.nodes.map (encN adr)) → DataR D x n.data → KidsI km n ks → Instr.findNow (.int .i64) (encI i) es 0 = some (some (fr, ptr (adr i))) →
      Run P f k F K l (nodeC (adr i) n x km :: treeC t m T :: .pt m (.map es.toArray ck) :: (ks ++ ((adel T.nodes i).map (NodeP D adr) ++ H))) R) :
    Run P f k F K l (TreeA D t T adr :: H) R :=
  Run.treeAt nd hi fun m es ck G fr hm hG hfr => by
    obtain ⟨x, km, ks, hx, hk, rfl⟩ := hG.kids
    exact Run.conseq (fun h q => seps_perm (perm_front _ _ _ _ _).symm h q) (r m es ck x km ks fr hm hx hk hfr)

theorem tree_shut2 {D : List HA} {t m : Nat} {T : TreeS} {adr : Int → Nat} {i : Int} {n : NodeS} {H ks : List HA} {es : List MapEntry} {ck : Nat} {x : Value} {km : Option Nat} (nd : (T.nodes.map Prod.fst).Nodup) (hi : aget T.nodes i = some n)
    (h : MapR encI es ck (T.nodes.map (encN adr))) (hx : DataR D x n.data) (hk : KidsI km n ks) :
    ∀ w, seps (nodeC (adr i) n x km :: treeC t m T :: .pt m (.map es.toArray ck) :: (ks ++ ((adel T.nodes i).map (NodeP D adr) ++ H))) w → seps (TreeA D t T adr :: H) w :=
  fun w q => tree_shut nd hi h (hk.node hx) w (seps_perm (perm_front _ _ _ _ _) w q)

/-- a node is turned in its place -/
theorem tree_upd {D : List HA} {t m : Nat} {T : TreeS} {adr : Int → Nat} {i : Int} {n : NodeS} {H ks : List HA} {es : List MapEntry} {ck : Nat} {x : Value} {km : Option Nat} (nd : (T.nodes.map Prod.fst).Nodup) (hi : aget T.nodes i = some n)
    (h : MapR encI es ck (T.nodes.map (encN adr))) (f : NodeS → NodeS) (hx : DataR D x (f n).data) (hk : KidsI km (f n) ks) :
    ∀ w, seps (nodeC (adr i) (f n) x km :: treeC t m T :: .pt m (.map es.toArray ck) :: (ks ++ ((adel T.nodes i).map (NodeP D adr) ++ H))) w → seps (TreeA D t (updN T i f) adr :: H) w := by
  intro w q
  have e : updN T i f = { T with nodes := aput T.nodes i (f n) } := by unfold updN; rw [hi]
  rw [e]
  refine tree_put (i := i) (n := f n) ?_ (hk.node hx) w (seps_perm (perm_front _ _ _ _ _) w q)
  refine h.perm' ?_
  unfold aput
  rw [List.map_cons]
  have p := adel_perm_map (encN adr) nd hi
  exact p

/-- another node is put into its place -/
theorem tree_new {D : List HA} {t m : Nat} {T : TreeS} {adr : Int → Nat} {i : Int} {n : NodeS} {b : Nat} {H : List HA} {es : List MapEntry} {ck : Nat} (nd : (T.nodes.map Prod.fst).Nodup) (hi : aget T.nodes i = some n)
    (h : MapR encI es ck (aput (T.nodes.map (encN adr)) i (ptr b))) (f : NodeS → NodeS) :
    ∀ w, seps (grp (NodeI D b (f n)) :: treeC t m T :: .pt m (.map es.toArray ck) :: ((adel T.nodes i).map (NodeP D adr) ++ H)) w → seps (TreeA D t (updN T i f) (atOf adr i b) :: H) w := by
  intro w q
  have e : updN T i f = { T with nodes := aput T.nodes i (f n) } := by unfold updN; rw [hi]
  rw [e]
  have hadel : ∀ y ∈ adel T.nodes i, atOf adr i b y.1 = adr y.1 := by
    intro y hy
    unfold atOf
    rw [if_neg (adel_not _ _ y hy)]
  have q2 := (Take.cons s1 (.cons s1 (.cons s0 .nil))).sound q
  obtain ⟨x, y, sp, qx, qy⟩ := seps_append.1 (show seps ((treeC t m T :: .pt m (.map es.toArray ck) :: grp (NodeI D b (f n)) :: (adel T.nodes i).map (NodeP D adr)) ++ H) w from q2)
  refine ⟨x, y, sp, ⟨_, ⟨m, es, ck, ?_, rfl⟩, ?_⟩, qy⟩
  · have e2 : (aput T.nodes i (f n)).map (encN (atOf adr i b)) = aput (T.nodes.map (encN adr)) i (ptr b) := by
      unfold aput
      rw [List.map_cons, enc_cong _ hadel, adel_enc]
      unfold encN atOf
      simp
    rw [e2]; exact h
  · have e3 : (aput T.nodes i (f n)).map (NodeP D (atOf adr i b)) = grp (NodeI D b (f n)) :: (adel T.nodes i).map (NodeP D adr) := by
      unfold aput
      rw [List.map_cons, adr_cong _ hadel]
      unfold NodeP atOf
      simp
    show seps (treeC t m { T with nodes := aput T.nodes i (f n) } :: .pt m (.map es.toArray ck) :: (aput T.nodes i (f n)).map (NodeP D (atOf adr i b))) x
    rw [e3]
    exact qx
end Eng
end Go.Proofs.YtnfomoeicgdkkaaGreatDoor

/- A file is written, linked, renamed, unlinked. -/
set_option linter.unusedSimpArgs false
set_option linter.unusedVariables false
set_option maxRecDepth 1000000
namespace Go.Proofs.YtnfomoeicgdkkaaGreatDoor

def kidAt (T : TreeS) (d : Int) (s : Bytes) : Int := ((aget T.nodes d).map fun n => kidOf n s).getD 0
def dirAt (T : TreeS) (i : Int) : Bool := ((aget T.nodes i).map (·.dir)).getD false
def incL (n : NodeS) : NodeS := { n with links := n.links + 1 }
def decL (n : NodeS) : NodeS := { n with links := n.links - 1 }
def noKid (s : Bytes) (n : NodeS) : NodeS := { n with kids := adel n.kids s }
def putKid (s : Bytes) (k : Int) (n : NodeS) : NodeS := { n with kids := aput n.kids s k }
def written (data : Bytes) (n : NodeS) : NodeS := ⟨false, n.links, data, []⟩

/-- what is done to a file, the error's number ahead -/
def fileT (T : TreeS) (kind : Int) (tgt data : Bytes) (d : Int) (s : Bytes) (i : Int) : Int × TreeS :=
  if kind = 3 then (0, updN T i (written data)) else if kind = 6 then (0, updN (updN T d (noKid s)) i decL) else
    if (T.place tgt).2.2 ≠ 0 then ((T.place tgt).2.2, T) else
      let e := (T.place tgt).1
      let last := (T.place tgt).2.1
      let j := kidAt T e last
      if kind = 4 ∧ j ≠ 0 then (9, T) else if j ≠ 0 ∧ dirAt T j = true then (10, T) else if j = i then (0, T) else
        if kind = 4 then (0, updN (updN T i incL) e (putKid last i))
        else (0, updN (updN (if j ≠ 0 then updN T j decL else T) d (noKid s)) e (putKid last i))

namespace Eng

/-- an operation in memory: its four cells -/
def opC (kind : Int) (path tgt : Bytes) (x : Value) : List Value := [.int .i64 kind, sv path, sv tgt, x]

theorem slices_Clone_byte' (v : Value) (bs : Bytes) (F : Hp) (hb : RdB F v bs) (hn : bs.length ≤ 1099511627) : Spec Tryz.prog 97 [v].toArray F [] fun r H => ∃ a c, r = .slice a bs.length c ∧ H = [RowP r bs] :=
  (slices_Clone_byte v bs F hb hn).post fun v H h e q => by
    subst e
    obtain ⟨a, c, hv⟩ := row_text h q
    exact ⟨_, ⟨a, c, hv, rfl⟩, q⟩

/-- blocks alone -/
theorem RowI.pts {v : Value} {b : Bytes} {G : List HA} (h : RowI v b G) : ∀ F, Known G F → RdB F v b := fun F k => h.rdB k

theorem seps_drop {A B : List HA} : ∀ (X : List HA) (w : Hp), seps (X ++ (A ++ B)) w → seps (X ++ B) w := fun X w q => by
  obtain ⟨x, y, sp, qx, qy⟩ := seps_append.1 q
  exact seps_append.2 ⟨x, y, sp, qx, seps_right _ qy⟩

/-- a tree's node's data is written into the pool, the node put into its place -/
theorem write_close {D : List HA} {t m : Nat} {T : TreeS} {adr : Int → Nat} {i : Int} {n : NodeS} {b : Nat} {ks : List HA} {es : List MapEntry} {ck : Nat} {v x : Value} {km : Option Nat} {data : Bytes} (nd : (T.nodes.map Prod.fst).Nodup) (hi : aget T.nodes i = some n)
    (h : MapR encI es ck (aput (T.nodes.map (encN adr)) i (ptr b))) (hv : ∃ a c, v = .slice a data.length c) :
    ∀ w, seps (nodeC (adr i) n x km :: treeC t m T :: .pt b (.cells [.bool false, .int .i64 n.links, v, .map none].toArray 172 (0, 0)) :: RowP v data :: .pt m (.map es.toArray ck) :: (ks ++ ((adel T.nodes i).map (NodeP D adr) ++ []))) w →
      ∃ Gn, seps (TreeA (Gn ++ D) t (updN T i (written data)) (atOf adr i b) :: Gn) w := by
  intro w q
  have q1 := (Take.cons s3 .nil).sound q
  obtain ⟨x1, y1, sp, ⟨Gn, hG, qG⟩, q2⟩ := q1
  refine ⟨Gn, ?_⟩
  have q3 := seps_tail q2
  have q4 : seps ([treeC t m T, .pt b (.cells [.bool false, .int .i64 n.links, v, .map none].toArray 172 (0, 0)), .pt m (.map es.toArray ck)] ++ ((adel T.nodes i).map (NodeP D adr) ++ [])) y1 := seps_drop _ _ q3
  have hsub : ∀ y ∈ D, y ∈ Gn ++ D := fun y hy => List.mem_append_right _ hy
  have hN : NodeI (Gn ++ D) b (written data n) [.pt b (.cells [.bool false, .int .i64 n.links, v, .map none].toArray 172 (0, 0))] :=
    ⟨v, ⟨hv, fun F k => hG.rdB k.left⟩, .inl ⟨rfl, rfl, rfl⟩⟩
  have q5 := fold_grp (I := NodeI (Gn ++ D) b (written data n)) (.cons s1 .nil) hN y1 q4
  have q6 : seps (grp (NodeI (Gn ++ D) b (written data n)) :: treeC t m T :: .pt m (.map es.toArray ck) :: ((adel T.nodes i).map (NodeP (Gn ++ D) adr) ++ [])) y1 :=
    seps_cons (fun h q => seps_cons (fun h q => seps_cons (fun h q => nodes_mono hsub _ h q) q) q) q5
  have q7 := tree_new (b := b) nd hi h (written data) y1 q6
  exact seps_comm (A := Gn) (B := [TreeA (Gn ++ D) t (updN T i (written data)) (atOf adr i b)]) w (seps_append.2 ⟨x1, y1, sp, qG, q7⟩)

attribute [local irreducible] Ops Segs Run Spec

def FileR (D : List HA) (t : Nat) (o : Int × TreeS) (v : Value) (H : List HA) : Prop := ∃ Gn adr, v = .int .i64 o.1 ∧ H = TreeA (Gn ++ D) t o.2 adr :: Gn

theorem fr_same {D : TypeDesc} {u : Value} {es : List MapEntry} {a b : Option (Nat × Value)} (h1 : Instr.findNow D u es 0 = some a) (h2 : Instr.findNow D u es 0 = some b) : a = b := by
  rw [h1] at h2; exact Option.some.inj h2

set_option maxHeartbeats 2000000 in
theorem tree_file (D : List HA) (t : Nat) (T : TreeS) (adr : Int → Nat) (N : Nat) (ok : T.Ok N) (kind : Int) (hkind : 3 ≤ kind ∧ kind ≤ 6) (path tgt data : Bytes) (x : Value) (d i : Int) (s : Bytes) (nd ni : NodeS)
    (hd : aget T.nodes d = some nd) (hdir : nd.dir = true) (hi : aget T.nodes i = some ni) (hfile : ni.dir = false) (hi0 : i ≠ 0) (F : Hp) (g : Glob F) (hx : RdB F x data) (hlen : data.length ≤ 1099511627) :
    Spec Tryz.prog 200 [ptr t, .agg (opC kind path tgt x).toArray, ptr (adr d), sv s, .int .i64 i].toArray F [TreeA D t T adr] (FileR D t (fileT T kind tgt data d s i)) := by
  have keys := ok.keys
  have hlb : ∀ k n, aget T.nodes k = some n → -1000000000 ≤ n.links ∧ n.links ≤ 1000000000 := by
    intro k n hk
    have h1 := ok.links k n hk
    have h2 := ok.great
    omega
  have hli := hlb i ni hi
  have hdi : d ≠ i := by
    intro e
    subst e
    rw [hd] at hi
    cases hi
    rw [hdir] at hfile; cases hfile
  refine Spec.enterC (n := 133) Tryz.func200 rfl (by simp) (by kernel_rfl) fun ec hc => ?_
  cbv at hc
  injection hc with hc
  subst hc
  simp only [argFr, Nat.reduceAdd]
  refine go ?_
  refine Ops.box (vs := opC kind path tgt x) rfl rfl fun b6 => ?_
  refine go1 ?_
  refine Ops.nil (Segs.nil ?_)
  refine Run.lendD [_] (.cons s0 .nil) fun F1 x1 k1 => ?_
  have hop := k1 _ _ m0
  have g1 := g.ext x1
  have hx1 := hx.ext x1
  clear k1
  refine Run.treeAt2 keys hi fun m es ck x0 km ks fr h1 hx0 hks hfr => ?_
  refine go ?_
  refine Ops.lkp rfl rfl m2 hfr ?_
  refine go1 ?_
  refine Ops.nil (Segs.nil ?_)
  refine Run.conseq (fun h q => tree_shut2 keys hi h1 hx0 hks h q) ?_
  refine go ?_
  refine Ops.ldF rfl hop rfl ?_
  refine go ?_
  refine Run.condD (p := kind = 3) rfl (fun h3 => ?_) (fun h3 => ?_)
  · have hres : fileT T kind tgt data d s i = (0, updN T i (written data)) := by unfold fileT; rw [if_pos h3]
    refine Run.treeAt2 keys hi fun m es ck x0 km ks fr h1 hx0 hks hfr => ?_
    obtain ⟨fr2, hf2, _, hput, _⟩ := h1.find same_i i
    obtain rfl := fr_same hf2 hfr
    refine go ?_
    refine Segs.lend [_, _] (.cons s0 (.cons s0 .nil)) fun F2 x2 k2 => ?_
    refine go1 ?_
    refine Ops.ldF rfl (k2 _ _ m1) rfl ?_
    refine go1 ?_
    refine Ops.ldF rfl (k2 _ _ m0) rfl ?_
    refine go1 ?_
    refine Ops.ldF rfl (x2 _ _ hop) rfl ?_
    refine go1 ?_
    refine Ops.call1 rfl .nil (fun F' e kn => slices_Clone_byte' x data F' ((hx1.ext x2).ext e) hlen) ?_
    rintro v G ⟨va, vc, hv, rfl⟩
    subst hv
    simp only [List.cons_append, List.nil_append]
    refine go1 ?_
    refine Ops.bld [.bool false, .int .i64 ni.links, .slice va data.length vc, .map none] rfl rfl ?_
    refine go1 ?_
    refine Ops.box (vs := [.bool false, .int .i64 ni.links, .slice va data.length vc, .map none]) rfl rfl fun b => ?_
    refine Ops.nil (Segs.oneS rfl ?_)
    try simp only [List.cons_append, List.nil_append]
    refine Ops.mup rfl rfl rfl hfr u4 ?_
    refine go ?_
    refine Run.exI (fun Gn => TreeA (Gn ++ D) t (updN T i (written data)) (atOf adr i b) :: Gn) (fun h q => write_close keys hi (hput (ptr b)) ⟨va, vc, rfl⟩ h q) fun Gn => ?_
    exact Run.ret1 Tryz.func200 rfl rfl (fun h q => q) ⟨Gn, _, by rw [hres], by rw [hres]⟩
  refine go ?_
  refine Run.condD (p := kind = 6) rfl (fun h6 => ?_) (fun h6 => ?_)
  · have hres : fileT T kind tgt data d s i = (0, updN (updN T d (noKid s)) i decL) := by unfold fileT; rw [if_neg h3, if_pos h6]
    refine Run.treeAt2 keys hd fun m es ck x0 km ks fr h1 hx0 hks hfr => ?_
    obtain ⟨r, es2, ck2, rfl, hr, rfl⟩ := hks.dir hdir
    obtain ⟨fr2, hf2, _, _, hdel⟩ := hr.find same_s s
    rw [encV_del] at hdel
    simp only [List.cons_append, List.nil_append]
    refine go ?_
    refine Ops.del rfl rfl hf2 u3 ?_
    refine go1 ?_
    refine Ops.nil (Segs.nil ?_)
    refine Run.conseq (fun h q => tree_upd keys hd h1 (noKid s) hx0 (.inr ⟨r, _, _, rfl, hdel, rfl⟩) h q) ?_
    have hi1 : aget (updN T d (noKid s)).nodes i = some ni := by rw [updN_get hd, if_neg hdi]; exact hi
    refine Run.treeAt2 (updN_keys keys _ _) hi1 fun m es ck x0 km ks fr h1 hx0 hks hfr => ?_
    refine go ?_
    refine Run.ret1 Tryz.func200 rfl rfl (H' := [TreeA D t (updN (updN T d (noKid s)) i decL) adr]) (fun h q => ?_) ⟨[], adr, by rw [hres], by rw [hres]; rfl⟩
    exact tree_upd (x := x0) (km := km) (ks := ks) (updN_keys keys _ _) hi1 h1 decL hx0 hks h q
  · have hK : kind = 4 ∨ kind = 5 := by omega
    have hres : fileT T kind tgt data d s i = (if (T.place tgt).2.2 ≠ 0 then ((T.place tgt).2.2, T) else
      if kind = 4 ∧ kidAt T (T.place tgt).1 (T.place tgt).2.1 ≠ 0 then (9, T) else if kidAt T (T.place tgt).1 (T.place tgt).2.1 ≠ 0 ∧ dirAt T (kidAt T (T.place tgt).1 (T.place tgt).2.1) = true then (10, T) else if kidAt T (T.place tgt).1 (T.place tgt).2.1 = i then (0, T) else
        if kind = 4 then (0, updN (updN T i incL) (T.place tgt).1 (putKid (T.place tgt).2.1 i))
        else (0, updN (updN (if kidAt T (T.place tgt).1 (T.place tgt).2.1 ≠ 0 then updN T (kidAt T (T.place tgt).1 (T.place tgt).2.1) decL else T) d (noKid s)) (T.place tgt).1 (putKid (T.place tgt).2.1 i))) := by
      unfold fileT; rw [if_neg h3, if_neg h6]
    refine go ?_
    refine Ops.ldF rfl hop rfl ?_
    refine go ?_
    refine Ops.call1 rfl (.cons s0 .nil) (fun F' e kn => tree_place D t T adr N ok tgt F' (g1.ext e)) ?_
    rintro v G ⟨rfl, rfl⟩
    simp only [List.cons_append, List.nil_append]
    have hpd : ∀ d s, T.place tgt = (d, s, 0) → ∃ n, aget T.nodes d = some n ∧ n.dir = true := fun d s h => place_dir ok h
    generalize T.place tgt = pl at *
    obtain ⟨e, last, err⟩ := pl
    dsimp only at hres
    unfold placeV
    dsimp only
    refine go1 ?_
    refine Ops.nil (Segs.nil ?_)
    by_cases he : err = 0
    · subst he
      rw [if_neg (by simp)] at hres
      obtain ⟨ne, hne, hed⟩ := hpd e last rfl
      simp only [if_true]
      refine go ?_
      refine Run.condF rfl ?_
      refine Run.treeAt2 keys hne fun m es ck x0 km ks fr h1 hx0 hks hfr => ?_
      obtain ⟨r, es2, ck2, rfl, hr, rfl⟩ := hks.dir hed
      obtain ⟨fr2, hf2, hg2, _, _⟩ := hr.find same_s last
      simp only [List.cons_append, List.nil_append]
      refine go ?_
      refine Ops.lkp rfl rfl m3 hf2 ?_
      rw [kid_found hg2]
      refine go1 ?_
      refine Ops.nil (Segs.nil ?_)
      refine Run.conseq (fun h q => tree_shut2 (ks := [_]) keys hne h1 hx0 hks h q) ?_
      have hj : kidAt T e last = kidOf ne last := by unfold kidAt; rw [hne]; rfl
      rw [hj] at hres
      have hjm : kidOf ne last ≠ 0 → ∃ nj, aget T.nodes (kidOf ne last) = some nj := by
        intro h0
        unfold kidOf at h0 ⊢
        cases hgk : aget ne.kids last with
        | none => rw [hgk] at h0; exact absurd rfl h0
        | some k => exact (ok.kids e ne last k hne hgk).2
      generalize kidOf ne last = j at *
      have hei : e ≠ i := by
        intro x
        subst x
        rw [hne] at hi
        cases hi
        rw [hed] at hfile; cases hfile
      by_cases hj0 : j = 0
      · subst hj0
        simp only [ne_eq, not_true_eq_false, and_false, if_false, false_and] at hres
        rw [if_neg (fun x => hi0 x.symm)] at hres
        have ei : decide ((0 : Int) = i) = false := decide_eq_false fun x => hi0 x.symm
        rcases hK with h4 | h5
        · subst h4
          simp only [if_true] at hres
          refine go ?_
          refine Ops.ldF rfl hop rfl ?_
          refine go ?_
          refine Run.condF rfl ?_
          refine go ?_
          refine Run.condF rfl ?_
          refine go ?_
          refine Run.condF (by simp [get, look, ei]) ?_
          refine go ?_
          refine Ops.ldF rfl hop rfl ?_
          refine go ?_
          refine Run.condT rfl ?_
          refine Run.treeAt2 keys hi fun m es ck x0 km ks fr h1 hx0 hks hfr => ?_
          refine Run.reg ?_
          refine Segs.oneS rfl ?_
          refine go1 ?_
          refine Ops.ld rfl m0 rfl ?_
          refine go1 ?_
          refine Ops.st0 rfl rfl rfl rfl u0 (by simp) ?_
          refine Ops.nil (Segs.nil ?_)
          refine Run.conseq (fun h q => tree_upd (x := x0) (km := km) (ks := ks) keys hi h1 incL hx0 hks h q) ?_
          have hk1 := updN_keys keys i incL
          have he1 : aget (updN T i incL).nodes e = some ne := by rw [updN_get hi, if_neg (fun x => hei x.symm)]; exact hne
          refine Run.treeAt2 hk1 he1 fun m es ck x0 km ks fr h1 hx0 hks hfr => ?_
          obtain ⟨r, es2, ck2, rfl, hr, rfl⟩ := hks.dir hed
          obtain ⟨fr2, hf2, _, hput, _⟩ := hr.find same_s last
          simp only [List.cons_append, List.nil_append]
          refine go ?_
          refine Ops.mup rfl rfl rfl hf2 u3 ?_
          refine go ?_
          refine Run.ret1 Tryz.func200 rfl rfl (H' := [TreeA D t (updN (updN T i incL) e (putKid last i)) adr]) (fun h q => ?_) ⟨[], adr, by rw [hres], by rw [hres]; rfl⟩
          refine tree_upd (ks := [_]) hk1 he1 h1 (putKid last i) hx0 (.inr ⟨r, _, _, rfl, ?_, rfl⟩) h q
          have hp := hput (encI i)
          rw [encV_put] at hp
          exact hp
        · subst h5
          simp only [Int.reduceEq, if_false] at hres
          refine go ?_
          refine Ops.ldF rfl hop rfl ?_
          refine go ?_
          refine Run.condF rfl ?_
          refine go ?_
          refine Run.condF rfl ?_
          refine go ?_
          refine Run.condF (by simp [get, look, ei]) ?_
          refine go ?_
          refine Ops.ldF rfl hop rfl ?_
          refine go ?_
          refine Run.condF rfl ?_
          refine go ?_
          refine Run.condF rfl ?_
          have he1 := hne
          refine Run.treeAt2 keys hd fun m es ck x0 km ks fr h1 hx0 hks hfr => ?_
          obtain ⟨r, es2, ck2, rfl, hr, rfl⟩ := hks.dir hdir
          obtain ⟨fr2, hf2, _, _, hdel⟩ := hr.find same_s s
          rw [encV_del] at hdel
          simp only [List.cons_append, List.nil_append]
          refine go ?_
          refine Ops.del rfl rfl hf2 u3 ?_
          refine go1 ?_
          refine Ops.nil (Segs.nil ?_)
          refine Run.conseq (fun h q => tree_upd (ks := [_]) keys hd h1 (noKid s) hx0 (.inr ⟨r, _, _, rfl, hdel, rfl⟩) h q) ?_
          have hk2 := updN_keys keys d (noKid s)
          have he2 : ∃ n2, aget (updN T d (noKid s)).nodes e = some n2 ∧ n2.dir = true := by
            rw [updN_get hd]
            by_cases hde : d = e
            · rw [if_pos hde]; exact ⟨_, rfl, hdir⟩
            · rw [if_neg hde]; exact ⟨ne, he1, hed⟩
          obtain ⟨n2, he2, hd2⟩ := he2
          refine Run.treeAt2 hk2 he2 fun m es ck x0 km ks fr h1 hx0 hks hfr => ?_
          obtain ⟨r, es2, ck2, rfl, hr, rfl⟩ := hks.dir hd2
          obtain ⟨fr2, hf2, _, hput, _⟩ := hr.find same_s last
          simp only [List.cons_append, List.nil_append]
          refine go ?_
          refine Ops.mup rfl rfl rfl hf2 u3 ?_
          refine go ?_
          refine Run.ret1 Tryz.func200 rfl rfl (H' := [TreeA D t (updN (updN T d (noKid s)) e (putKid last i)) adr]) (fun h q => ?_) ⟨[], adr, by rw [hres], by rw [hres]; rfl⟩
          refine tree_upd (ks := [_]) hk2 he2 h1 (putKid last i) hx0 (.inr ⟨r, _, _, rfl, ?_, rfl⟩) h q
          have hp := hput (encI i)
          rw [encV_put] at hp
          exact hp
      · obtain ⟨nj, hnj⟩ := hjm hj0
        have ej : decide (j = 0) = false := decide_eq_false hj0
        have hlj := hlb j nj hnj
        have hdj : dirAt T j = nj.dir := by unfold dirAt; rw [hnj]; rfl
        rw [hdj] at hres
        rcases hK with h4 | h5
        · subst h4
          rw [if_pos ⟨rfl, hj0⟩] at hres
          refine go ?_
          refine Ops.ldF rfl hop rfl ?_
          refine go ?_
          refine Run.condT (by simp [get, look, ej, pickV]) ?_
          refine go ?_
          exact Run.ret1 Tryz.func200 rfl rfl (fun h q => q) ⟨[], adr, by rw [hres], by rw [hres]; rfl⟩
        · subst h5
          rw [if_neg (by simp)] at hres
          refine go ?_
          refine Ops.ldF rfl hop rfl ?_
          refine go ?_
          refine Run.condF rfl ?_
          refine Run.treeAt2 keys hnj fun m es ck x0 km ks fr h1 hx0 hks hfr => ?_
          refine go ?_
          simp only [ej]
          refine go ?_
          refine Ops.lkp rfl rfl m2 hfr ?_
          refine go ?_
          cases hdr : nj.dir with
          | true =>
            rw [hdr, if_pos ⟨hj0, rfl⟩] at hres
            refine Run.condT rfl ?_
            refine go ?_
            exact Run.ret1 Tryz.func200 rfl rfl (H' := [TreeA D t T adr]) (fun h q => tree_shut2 keys hnj h1 hx0 hks h (by first | exact q | (rw [hdr]; exact q))) ⟨[], adr, by rw [hres], by rw [hres]; rfl⟩
          | false =>
            rw [hdr, if_neg (by simp)] at hres
            refine Run.condF rfl ?_
            refine Run.conseq (fun h q => tree_shut2 keys hnj h1 hx0 hks h (by first | exact q | (rw [hdr]; exact q))) ?_
            refine go ?_
            refine Run.condD (p := j = i) rfl (fun hji => ?_) (fun hji => ?_)
            · rw [if_pos hji] at hres
              refine go ?_
              exact Run.ret1 Tryz.func200 rfl rfl (fun h q => q) ⟨[], adr, by rw [hres], by rw [hres]; rfl⟩
            rw [if_neg hji, if_neg (by decide), if_pos hj0] at hres
            refine go ?_
            refine Ops.ldF rfl hop rfl ?_
            refine go ?_
            refine Run.condF rfl ?_
            refine go ?_
            refine Run.condT (by simp [get, look, ej]) ?_
            refine Run.treeAt2 keys hnj fun m es ck x0 km ks fr h1 hx0 hks hfr => ?_
            refine Run.reg ?_
            refine Segs.oneS rfl ?_
            refine go1 ?_
            refine Ops.ld rfl m1 rfl ?_
            refine go1 ?_
            refine Ops.lkp rfl rfl m2 hfr ?_
            refine go1 ?_
            refine Ops.ld rfl m0 rfl ?_
            refine go1 ?_
            refine Ops.st0 rfl rfl rfl rfl u0 (by simp) ?_
            refine Ops.nil (Segs.nil ?_)
            refine Run.conseq (fun h q => tree_upd (x := x0) (km := km) (ks := ks) keys hnj h1 decL hx0 hks h q) ?_
            have hk1 := updN_keys keys j decL
            have hd1 : aget (updN T j decL).nodes d = some nd := by
              rw [updN_get hnj, if_neg]
              · exact hd
              · intro x; subst x; rw [hd] at hnj; cases hnj; rw [hdir] at hdr; cases hdr
            have he1 : aget (updN T j decL).nodes e = some ne := by
              rw [updN_get hnj, if_neg]
              · exact hne
              · intro x; subst x; rw [hne] at hnj; cases hnj; rw [hed] at hdr; cases hdr
            refine Run.treeAt2 hk1 hd1 fun m es ck x0 km ks fr h1 hx0 hks hfr => ?_
            obtain ⟨r, es2, ck2, rfl, hr, rfl⟩ := hks.dir hdir
            obtain ⟨fr2, hf2, _, _, hdel⟩ := hr.find same_s s
            rw [encV_del] at hdel
            simp only [List.cons_append, List.nil_append]
            refine go ?_
            refine Ops.del rfl rfl hf2 u3 ?_
            refine go1 ?_
            refine Ops.nil (Segs.nil ?_)
            refine Run.conseq (fun h q => tree_upd (ks := [_]) hk1 hd1 h1 (noKid s) hx0 (.inr ⟨r, _, _, rfl, hdel, rfl⟩) h q) ?_
            have hk2 := updN_keys hk1 d (noKid s)
            have he2 : ∃ n2, aget (updN (updN T j decL) d (noKid s)).nodes e = some n2 ∧ n2.dir = true := by
              rw [updN_get hd1]
              by_cases hde : d = e
              · rw [if_pos hde]; exact ⟨_, rfl, hdir⟩
              · rw [if_neg hde]; exact ⟨ne, he1, hed⟩
            obtain ⟨n2, he2, hd2⟩ := he2
            refine Run.treeAt2 hk2 he2 fun m es ck x0 km ks fr h1 hx0 hks hfr => ?_
            obtain ⟨r, es2, ck2, rfl, hr, rfl⟩ := hks.dir hd2
            obtain ⟨fr2, hf2, _, hput, _⟩ := hr.find same_s last
            simp only [List.cons_append, List.nil_append]
            refine go ?_
            refine Ops.mup rfl rfl rfl hf2 u3 ?_
            refine go ?_
            refine Run.ret1 Tryz.func200 rfl rfl (H' := [TreeA D t (updN (updN (updN T j decL) d (noKid s)) e (putKid last i)) adr]) (fun h q => ?_) ⟨[], adr, by rw [hres], by rw [hres]; rfl⟩
            refine tree_upd (ks := [_]) hk2 he2 h1 (putKid last i) hx0 (.inr ⟨r, _, _, rfl, ?_, rfl⟩) h q
            have hp := hput (encI i)
            rw [encV_put] at hp
            exact hp
    · rw [if_pos he] at hres
      rw [if_neg he]
      refine go ?_
      refine Run.condT (by simp [get, look, he]) ?_
      refine go ?_
      exact Run.ret1 Tryz.func200 rfl rfl (fun h q => q) ⟨[], adr, by rw [hres], by rw [hres]; rfl⟩
end Eng
end Go.Proofs.YtnfomoeicgdkkaaGreatDoor
