/- Function values: made, called, handed to the library's IndexFunc and DeleteFunc. -/
import Derived.Test.YtnfomoeicgdkkaaGreatDoorZ9
import Derived.Shelf.SlIterI.Nil
import Derived.Shelf.SlIter.Nil
import Derived.Shelf.SortM.Plain
import Derived.Shelf.SortM.SortNone
import Derived.Ground.GgzProg
import Derived.Ground.SlgmProg
import Derived.Shelf.SlGeneric
import Derived.Test.YtnfomoeicgdkkaaGreatDoorProg
import Derived.Test.YtnfomoeicgdkkaaGreatDoorZ6
set_option linter.unusedSimpArgs false
set_option linter.unusedVariables false
set_option maxRecDepth 1000000
namespace Go.Proofs.YtnfomoeicgdkkaaGreatDoor

/-- the first place, from i on, at which p is so; -1: none -/
def idxFrom {α : Type} (p : α → Bool) : Nat → List α → Int
  | _, [] => -1
  | i, x :: l => if p x = true then (i : Int) else idxFrom p (i + 1) l

theorem idxFrom_spec {α : Type} (p : α → Bool) : ∀ (l : List α) (i : Nat), (idxFrom p i l = -1 ∧ ∀ x ∈ l, p x = false) ∨ ∃ k, k < l.length ∧ idxFrom p i l = ((i + k : Nat) : Int) ∧ (∀ x ∈ l.take k, p x = false) ∧ ∃ x, l[k]? = some x ∧ p x = true := by
  intro l
  induction l with
  | nil => intro i; exact .inl ⟨rfl, by simp⟩
  | cons y l ih =>
    intro i
    unfold idxFrom
    by_cases h : p y = true
    · rw [if_pos h]
      exact .inr ⟨0, by simp, by simp, by simp, y, rfl, h⟩
    · rw [if_neg h]
      rcases ih (i + 1) with ⟨h1, h2⟩ | ⟨k, h1, h2, h3, x, h4, h5⟩
      · refine .inl ⟨h1, fun x hx => ?_⟩
        cases hx with
        | head => simpa using h
        | tail _ hx => exact h2 x hx
      · refine .inr ⟨k + 1, by simp; omega, by rw [h2]; congr 1; omega, fun z hz => ?_, x, by simpa using h4, h5⟩
        rw [List.take_succ_cons] at hz
        cases hz with
        | head => simpa using h
        | tail _ hz => exact h3 z hz

namespace Eng
section
variable {P : Program} {F : Hp} {l : Fr} {H : List HA} {C : Fr → List HA → Prop} {es : List EG} {i d : Nat} {c : Bool}

theorem Ops.mkf {fn : Fn} {cap : List Operand} {vs : List Value} (hc : getL l cap = some vs) (k : Ops P F es ((d, .func fn (List.toArray []) vs.toArray) :: l) H C) : Ops P F (EG.mk i (some d) none c (.mkf fn (List.toArray []) cap.toArray) :: es) l H C :=
  Ops.any (fun ρ w Q a f q => by
    simp only [EOp.wp]
    have : cap.toArray.map ρ = vs.toArray := by rw [← getL_sound a hc]; simp
    rw [this]
    have e : Array.map ρ (List.toArray ([] : List Operand)) = List.toArray [] := by simp
    rw [e]
    exact q) k

/-- a function value is called -/
theorem Ops.callv {dd : Option Nat} {f : Operand} {args : List Operand} {vs caps : List Value} {g : FuncId} {fn : Func} {Pre Rest : List HA} {R : Value → List HA → Prop} (hf : get l f = some (.func (.func g) (List.toArray []) caps.toArray)) (ha : getL l args = some vs)
    (hfn : P.funcs[g]? = some fn) (hb : fn.body.isSome = true) (hn : (fn.name == "runtime.NumGoroutine") = false) (t : Take H Pre Rest)
    (sp : ∀ F', Ext F F' → Known Rest F' → Spec P g (vs ++ caps).toArray F' Pre R) (k : ∀ v G, R v G → Ops P F es (putD dd l v) (G ++ Rest) C) :
    Ops P F (EG.mk i dd none false (.callv f args.toArray) :: es) l H C :=
  Ops.busy (R := fun v H' => ∃ G, R v G ∧ H' = G ++ Rest)
    (fun F' ex w h ρ a q f => by
      refine ⟨g, caps.toArray, a _ _ hf, ⟨fn, hfn, hb, hn⟩, ?_⟩
      have : args.toArray.map ρ ++ caps.toArray = (vs ++ caps).toArray := by rw [← getL_sound a ha]; simp
      rw [this]
      refine (Spec.frame t (fun F2 e k => sp F2 (ex.trans e) k) w h q f).mono ?_
      rintro e w' ⟨v, H', h', he, r, q', f', kp⟩
      exact ⟨v, H', h', he, r, q', f', kp⟩)
    fun v H' ⟨G, r, e⟩ => by subst e; exact k v G r
end

/-- one-cell values that can be read in the frame -/
def RdE {α : Type} (enc : α → Value) (F : Hp) (v : Value) (l : List α) : Prop := ∃ a c, v = .slice a l.length c ∧
  (l = [] ∨ ∃ b o L T fz, a = some ⟨b, o, none⟩ ∧ F b = some (.cells (List.toArray L) T fz) ∧ ∀ i x, l[i]? = some x → L[o + i]? = some (enc x))
theorem RdE.ext {α : Type} {enc : α → Value} {F F' : Hp} (e : Ext F F') {v : Value} {l : List α} (h : RdE enc F v l) : RdE enc F' v l := by
  obtain ⟨a, c, hv, h | ⟨b, o, L, T, fz, ha, hF, hr⟩⟩ := h
  · exact ⟨a, c, hv, .inl h⟩
  · exact ⟨a, c, hv, .inr ⟨b, o, L, T, fz, ha, e _ _ hF, hr⟩⟩

/-- what a slice that owns its array lends -/
theorem OwnI.rdE {α : Type} {enc : α → Value} {a : Option Addr} {n c : Nat} {T : TypeId} {zs : List α} {G : List HA} (h : OwnI a n c 1 T (zs.map enc) G) {F : Hp} (k : Known G F) : n = zs.length ∧ RdE enc F (.slice a n c) zs := by
  obtain ⟨hl, h⟩ := h
  have hn : n = zs.length := by simpa using hl.symm
  subst hn
  refine ⟨rfl, a, c, rfl, ?_⟩
  rcases h with ⟨_, h, _, _⟩ | ⟨b, sp, rfl, hc, hcap, rfl⟩
  · exact .inl (List.length_eq_zero_iff.1 h)
  · refine .inr ⟨b, 0, _, T, (0, 0), rfl, k _ _ m0, fun i x hx => ?_⟩
    have hi : i < zs.length := by
      rcases Nat.lt_or_ge i zs.length with g | g
      · exact g
      · rw [List.getElem?_eq_none g] at hx; cases hx
    rw [Nat.zero_add, List.getElem?_append_left (by simpa using hi), List.getElem?_map, hx]
    rfl

/-- a function value that tells whether something is so, reading the frame alone -/
def PredF {α : Type} (P : Program) (F : Hp) (f : Value) (enc : α → Value) (p : α → Bool) : Prop := ∃ g caps fn, f = .func (.func g) (List.toArray []) (List.toArray caps) ∧ P.funcs[g]? = some fn ∧ fn.body.isSome = true ∧ (fn.name == "runtime.NumGoroutine") = false ∧
  ∀ x F', Ext F F' → Spec P g (List.toArray (enc x :: caps)) F' [] fun v H => v = .bool (p x) ∧ H = []
theorem PredF.ext {α : Type} {P : Program} {F F' : Hp} {f : Value} {enc : α → Value} {p : α → Bool} (h : PredF P F f enc p) (e : Ext F F') : PredF P F' f enc p := by
  obtain ⟨g, caps, fn, h1, h2, h3, h4, h5⟩ := h
  exact ⟨g, caps, fn, h1, h2, h3, h4, fun x F2 e2 => h5 x F2 (e.trans e2)⟩

attribute [local irreducible] Ops Segs Run Spec

theorem slices_IndexFunc_int (v f : Value) (zs : List Int) (p : Int → Bool) (F : Hp) (hv : RdE encI F v zs) (hf : PredF Tryz.prog F f encI p) (hn : zs.length ≤ 1000000000000) :
    Spec Tryz.prog 204 [v, f].toArray F [] fun r H => r = .int .i64 (idxFrom p 0 zs) ∧ H = [] := by
  obtain ⟨oa, oc, rfl, hv⟩ := hv
  obtain ⟨g, caps, fn, rfl, hg1, hg2, hg3, hg⟩ := hf
  refine Spec.enterC (n := 19) Tryz.func204 rfl (by simp) (by kernel_rfl) fun ec hc => ?_
  cbv at hc
  injection hc with hc
  subst hc
  simp only [argFr, Nat.reduceAdd]
  refine go ?_
  refine Run.loopI (ι := Nat) (fun x => zs.length - x) (fun x => x ≤ zs.length ∧ idxFrom p 0 zs = idxFrom p x (zs.drop x))
    (fun x => [(8, .int .i64 x), (7, .int .i64 zs.length), (0, .slice oa zs.length oc), (1, .func (.func g) (List.toArray []) caps.toArray)]) (fun _ => []) 0 ⟨Nat.zero_le _, rfl⟩ (.cons rfl (.cons rfl (.cons rfl (.cons rfl .nil)))) (fun _ h => h) ?_
  rintro i ⟨hi, hidx⟩ ih
  have ihn := ih
  clear ih
  try dsimp only at hi hidx ihn ⊢
  refine go ?_
  refine Run.condD rfl (fun hlt => ?_) (fun hge => ?_)
  · have hlt' : i < zs.length := by omega
    have hget : zs.drop i = zs[i] :: zs.drop (i + 1) := List.drop_eq_getElem_cons hlt'
    have hel : zs[i]? = some zs[i] := List.getElem?_eq_getElem hlt'
    rcases hv with hv | ⟨b, o, L, T, fz, rfl, hF, hr⟩
    · rw [hv] at hlt'; simp at hlt'
    have hcell := hr i _ hel
    rw [hget] at hidx
    generalize zs[i] = z at *
    have hidx : idxFrom p 0 zs = if p z = true then (i : Int) else idxFrom p (i + 1) (zs.drop (i + 1)) := hidx
    refine go ?_
    refine Ops.ixS rfl rfl ⟨by omega, by omega⟩ ?_
    refine Ops.ldF rfl hF (by rw [Int.toNat_natCast, Nat.mul_one]; exact hcell) ?_
    refine Ops.callv (vs := [encI z]) rfl rfl hg1 hg2 hg3 .nil (fun F' e kn => hg z F' e) ?_
    rintro v G ⟨rfl, rfl⟩
    refine go1 ?_
    refine Ops.nil (Segs.nil ?_)
    cases hp : p z with
    | true =>
      rw [hp, if_pos rfl] at hidx
      refine Run.condT rfl ?_
      refine go ?_
      exact Run.ret1 Tryz.func204 rfl rfl (fun h q => q) ⟨by rw [hidx], rfl⟩
    | false =>
      rw [hp, if_neg (by simp)] at hidx
      refine Run.condF rfl ?_
      refine go ?_
      exact Run.lp (Run.again (ihn (i + 1) (by omega) ⟨by omega, hidx⟩) (.cons rfl (.cons rfl (.cons rfl (.cons rfl .nil)))) (fun _ h => h))
  · have : i = zs.length := by omega
    subst this
    rw [List.drop_length] at hidx
    refine Run.exit rfl ?_
    refine go ?_
    exact Run.ret1 Tryz.func204 rfl rfl (fun h q => q) ⟨by rw [hidx]; rfl, rfl⟩

/-- numbers that can be read where these blocks are known -/
def LendN (v : Value) (zs : List Int) (H : List HA) : Prop := (∃ a c, v = .slice a zs.length c) ∧ ∀ F, Known H F → RdN F v zs

theorem slices_DeleteFunc_int (a : Option Addr) (c : Nat) (f : Value) (zs : List Int) (p : Int → Bool) (F : Hp) (hf : PredF Tryz.prog F f encI p) (hn : zs.length ≤ 1000000000000) :
    Spec Tryz.prog 161 [.slice a zs.length c, f].toArray F [OwnS a zs.length c 1 3 (zs.map encI)] fun r H => LendN r (zs.filter fun x => !p x) H := by
  refine Spec.enterC (n := 42) Tryz.func161 rfl (by simp) (by kernel_rfl) fun ec hc => ?_
  cbv at hc
  injection hc with hc
  subst hc
  simp only [argFr, Nat.reduceAdd]
  refine Run.open_ s0 fun G hG => ?_
  simp only [List.append_nil]
  refine go ?_
  refine Ops.callE1 [] G rfl (fun h q => q) (fun F' e kn => slices_IndexFunc_int _ f zs p F' (hG.rdE kn).2 (hf.ext e) hn) ?_
  rintro v G2 ⟨rfl, rfl⟩
  simp only [List.nil_append]
  refine go1 ?_
  refine Ops.nil (Segs.nil ?_)
  rcases idxFrom_spec p zs 0 with ⟨h1, h2⟩ | ⟨k, h1, h2, h3, x0, h4, h5⟩
  · rw [h1]
    refine go ?_
    refine Run.condT rfl ?_
    refine go ?_
    have hfl : zs.filter (fun x => !p x) = zs := by
      rw [List.filter_eq_self]
      intro x hx
      simp [h2 x hx]
    refine Run.ret1 Tryz.func161 rfl rfl (H' := G) (fun h q => q) ?_
    rw [hfl]
    exact ⟨⟨_, _, rfl⟩, fun F' kn => (hG.rdE kn).2⟩
  rw [h2, Nat.zero_add]
  obtain ⟨hl0, ⟨_, hz, _⟩ | ⟨b, sp, rfl, hc, hcap, rfl⟩⟩ := hG
  · omega
  obtain ⟨g, caps, fn, rfl, hg1, hg2, hg3, hg⟩ := hf
  have hfk : (zs.take k).filter (fun x => !p x) = zs.take k := by
    rw [List.filter_eq_self]
    intro x hx
    simp [h3 x hx]
  have hdk : zs.drop k = x0 :: zs.drop (k + 1) := by
    rw [List.drop_eq_getElem_cons h1]
    rw [List.getElem?_eq_getElem h1] at h4
    cases h4; rfl
  have hlk : (zs.take k).length = k := by rw [List.length_take]; omega
  have hcap' : zs.length + sp.length = c := by simpa using hcap
  refine go ?_
  refine Run.condF (by simp [get, look]) ?_
  refine go ?_
  refine Run.loopI (ι := Nat × List Int × List Value) (fun x => zs.length - x.1) (fun x => x.1 ≤ zs.length ∧ x.2.1 = (zs.take x.1).filter (fun y => !p y) ∧ x.2.1.length + x.2.2.length = x.1 ∧ 1 ≤ x.2.2.length)
    (fun x => [(6, .int .i64 x.1), (5, .int .i64 x.2.1.length), (0, .slice (some ⟨b, 0, none⟩) zs.length c), (1, .func (.func g) (List.toArray []) caps.toArray)])
    (fun x => [.pt b (.cells (x.2.1.map encI ++ (x.2.2 ++ ((zs.drop x.1).map encI ++ sp))).toArray 3 (0, 0))]) (k + 1, zs.take k, [encI x0]) ⟨by dsimp only; omega, ?_, by dsimp only; rw [hlk]; rfl, Nat.le_refl _⟩ (.cons ?_ (.cons ?_ (.cons rfl (.cons rfl .nil)))) ?_ ?_
  · dsimp only
    rw [List.take_succ_eq_append_getElem h1, List.filter_append, hfk]
    rw [List.getElem?_eq_getElem h1] at h4
    cases h4
    simp [h5]
  · dsimp only
    show some (Value.int .i64 _) = _
    congr 2
  · dsimp only; rw [hlk]; rfl
  · intro h q
    dsimp only
    have e : (zs.take k).map encI ++ ([encI x0] ++ ((zs.drop (k + 1)).map encI ++ sp)) = zs.map encI ++ sp := by
      conv => rhs; rw [← List.take_append_drop k zs, hdk]
      simp
    rw [e]
    exact q
  · rintro ⟨j, kept, gs⟩ ⟨hj, hk, hlen, hg0⟩ ih
    have ihn := ih
    clear ih
    dsimp only at hj hk hlen hg0 ihn ⊢
    refine go ?_
    refine Run.condD rfl (fun hlt => ?_) (fun hge => ?_)
    · have hlt' : j < zs.length := by omega
      have hget : zs.drop j = zs[j] :: zs.drop (j + 1) := List.drop_eq_getElem_cons hlt'
      have htk : zs.take (j + 1) = zs.take j ++ [zs[j]] := List.take_succ_eq_append_getElem hlt'
      have hcell : (kept.map encI ++ (gs ++ ((zs.drop j).map encI ++ sp)))[j]? = some (encI zs[j]) := by
        have e0 : j - (kept.map encI).length - gs.length = 0 := by rw [List.length_map]; omega
        rw [List.getElem?_append_right (by simp; omega), List.getElem?_append_right (by simp; omega), e0, hget]
        rfl
      rw [hget] at *
      generalize zs[j] = z at *
      refine go ?_
      refine Ops.ixS rfl rfl ⟨by omega, by omega⟩ ?_
      refine Ops.ld rfl m0 (by rw [Int.toNat_natCast, Nat.mul_one, Nat.zero_add]; exact hcell) ?_
      refine go ?_
      refine Ops.callv (vs := [encI z]) rfl rfl hg1 hg2 hg3 .nil (fun F' e kn => hg z F' e) ?_
      rintro v G ⟨rfl, rfl⟩
      refine go1 ?_
      refine Ops.nil (Segs.nil ?_)
      simp only [List.nil_append]
      cases hp : p z with
      | true =>
        refine Run.condF rfl ?_
        refine go ?_
        refine Run.lp (Run.again (ihn (j + 1, kept, gs ++ [encI z]) (by dsimp only; omega) ⟨by dsimp only; omega, by dsimp only; rw [htk, List.filter_append, ← hk]; simp [hp], by simp only [List.length_append, List.length_singleton]; omega, by simp⟩) (.cons rfl (.cons rfl (.cons rfl (.cons rfl .nil)))) (fun h q => ?_))
        dsimp only
        simpa using q
      | false =>
        obtain ⟨g1, gs, rfl⟩ : ∃ x y, gs = x :: y := by
          cases gs with
          | nil => simp at hg0
          | cons x y => exact ⟨x, y, rfl⟩
        refine Run.condT rfl ?_
        refine go ?_
        simp only [List.length_cons] at hlen
        refine Ops.ixS rfl rfl ⟨by omega, by omega⟩ ?_
        refine Ops.st0 rfl rfl rfl rfl u0 (by simp) ?_
        have hset : (kept.map encI ++ (g1 :: gs ++ ((z :: zs.drop (j + 1)).map encI ++ sp))).set (0 + Int.toNat (kept.length : Int) * 1) (Value.int .i64 z) = (kept ++ [z]).map encI ++ ((gs ++ [encI z]) ++ ((zs.drop (j + 1)).map encI ++ sp)) := by
          rw [Int.toNat_natCast, Nat.mul_one, Nat.zero_add, List.set_append_right _ _ (by simp)]
          simp
        rw [hset]
        refine go ?_
        refine Run.lp (Run.again (ihn (j + 1, kept ++ [z], gs ++ [encI z]) (by dsimp only; omega) ⟨by dsimp only; omega, by dsimp only; rw [htk, List.filter_append, ← hk]; simp [hp], by simp only [List.length_append, List.length_singleton]; omega, by simp⟩) (.cons rfl (.cons ?_ (.cons rfl (.cons rfl .nil)))) (fun h q => q))
        dsimp only
        rw [List.length_append]
        rfl
    · have hje : j = zs.length := by omega
      subst hje
      rw [List.take_length] at hk
      rw [List.drop_length]
      refine Run.exit rfl ?_
      refine go ?_
      refine Ops.slS (l1 := kept.length) (h1 := zs.length) rfl rfl (by simp [optG, get, look]) (by omega) (by omega) fun a1 ha1 => ?_
      have ha1' : a1 = some ⟨b, kept.length, none⟩ := by
        rcases ha1 with h | h
        · rw [h]; simp
        · omega
      subst ha1'
      refine Ops.clS (b := b) (o := kept.length) (n := zs.length - kept.length) rfl (by simp) (by intro v hv; simp [zerosL] at hv; rw [hv.2]; rfl) (by simp; omega) u0 ?_
      refine go ?_
      refine Ops.slS (l1 := 0) (h1 := kept.length) rfl (by simp [optG, get, look]) rfl (by omega) (by omega) fun a2 ha2 => ?_
      refine go ?_
      refine Run.ret1 Tryz.func161 rfl rfl (H' := _) (fun h q => q) ?_
      rw [← hk, Nat.sub_zero]
      refine ⟨⟨_, _, rfl⟩, fun F' kn => ⟨_, _, rfl, ?_⟩⟩
      by_cases hk0 : kept = []
      · exact .inl hk0
      refine .inr ⟨b, 0, _, _, _, ?_, kn _ _ m0, fun i x hx => ?_⟩
      · rcases ha2 with h | h
        · exact h.trans (by simp)
        · exact absurd (List.length_eq_zero_iff.1 (by omega)) hk0
      · have hi : i < kept.length := by
          rcases Nat.lt_or_ge i kept.length with g | g
          · exact g
          · rw [List.getElem?_eq_none g] at hx; cases hx
        rw [Nat.zero_add, List.append_assoc, List.getElem?_append_left (by simp; omega), List.getElem?_take, if_pos hi, List.getElem?_append_left (by simp; exact hi), List.getElem?_map, hx]
        rfl
end Eng
end Go.Proofs.YtnfomoeicgdkkaaGreatDoor

/-
  DERIVED: THE SHELF's CONTRACTS AT THIS DUMP, IN PLAIN WORDS (tools/lay-plain.mjs out of 'TryzIter.lean', which tools/lay-shelf.mjs wrote): THE SAME DECLARATIONS UNDER THE SAME NAMES: 'import', 'namespace', 'open', 'def', 'theorem' AND NOTHING ELSE: no command of the shelf's: FOR A HAND-IN. Each laying: the table of numbers ('.._ren') and one theorem, a field a fact of the dump's own or the kernel's comparison; each contract: ONE APPLICATION.
-/
set_option linter.unusedSimpArgs false
set_option linter.unusedVariables false
namespace Go.Proofs
open Go.Shelf
def Tryz.keysN_ren : Go.Shelf.Ren := ⟨fun | 7 => 202 | 10 => 228 | n => n, fun | 23 => 167 | 26 => 3 | 3 => 170 | 28 => 196 | 0 => 0 | 27 => 195 | 33 => 263 | 4 => 4 | n => n, fun | n => n⟩
theorem Tryz.keysN : Go.Proofs.SlLaysZI.n7 Tryz.prog Tryz.keysN_ren := {
  mixed := by kernel_rfl
  f7 := ⟨Tryz.f202.name, by decide, Tryz.func202.trans (congrArg some (by kernel_rfl))⟩
  f10 := ⟨Tryz.f228.name, by decide, Tryz.func228.trans (congrArg some (by kernel_rfl))⟩
  t0 := Tryz.underlying0
  a0 := Tryz.isAgg0
  z0 := Tryz.sizeOf0
  v0 := Tryz.zeroValue0
  t4 := Tryz.underlying4
  a4 := Tryz.isAgg4
  z4 := Tryz.sizeOf4
  v4 := Tryz.zeroValue4
  t23 := Tryz.underlying167
  a23 := Tryz.isAgg167
  z23 := Tryz.sizeOf167
  v23 := Tryz.zeroValue167
  t26 := Tryz.underlying3
  a26 := Tryz.isAgg3
  z26 := Tryz.sizeOf3
  v26 := Tryz.zeroValue3
  t27 := Tryz.underlying195
  a27 := Tryz.isAgg195
  z27 := Tryz.sizeOf195
  v27 := Tryz.zeroValue195
  t28 := Tryz.underlying196
  a28 := Tryz.isAgg196
  z28 := Tryz.sizeOf196
  v28 := Tryz.zeroValue196
  t33 := Tryz.underlying263
  a33 := Tryz.isAgg263
  z33 := Tryz.sizeOf263
  v33 := Tryz.zeroValue263 }
def Tryz.keysP_ren : Go.Shelf.Ren := ⟨fun | 7 => 108 | 10 => 178 | n => n, fun | 23 => 188 | 26 => 3 | 3 => 191 | 28 => 196 | 0 => 0 | 27 => 195 | 33 => 263 | 4 => 4 | n => n, fun | n => n⟩
theorem Tryz.keysP : Go.Proofs.SlLaysZI.n7 Tryz.prog Tryz.keysP_ren := {
  mixed := by kernel_rfl
  f7 := ⟨Tryz.f108.name, by decide, Tryz.func108.trans (congrArg some (by kernel_rfl))⟩
  f10 := ⟨Tryz.f178.name, by decide, Tryz.func178.trans (congrArg some (by kernel_rfl))⟩
  t0 := Tryz.underlying0
  a0 := Tryz.isAgg0
  z0 := Tryz.sizeOf0
  v0 := Tryz.zeroValue0
  t4 := Tryz.underlying4
  a4 := Tryz.isAgg4
  z4 := Tryz.sizeOf4
  v4 := Tryz.zeroValue4
  t23 := Tryz.underlying188
  a23 := Tryz.isAgg188
  z23 := Tryz.sizeOf188
  v23 := Tryz.zeroValue188
  t26 := Tryz.underlying3
  a26 := Tryz.isAgg3
  z26 := Tryz.sizeOf3
  v26 := Tryz.zeroValue3
  t27 := Tryz.underlying195
  a27 := Tryz.isAgg195
  z27 := Tryz.sizeOf195
  v27 := Tryz.zeroValue195
  t28 := Tryz.underlying196
  a28 := Tryz.isAgg196
  z28 := Tryz.sizeOf196
  v28 := Tryz.zeroValue196
  t33 := Tryz.underlying263
  a33 := Tryz.isAgg263
  z33 := Tryz.sizeOf263
  v33 := Tryz.zeroValue263 }
def Tryz.sortedI_ren : Go.Shelf.Ren := ⟨fun | 6 => 107 | 8 => 177 | 9 => 95 | 11 => 222 | 13 => 164 | 12 => 163 | 23 => 214 | 24 => 215 | 14 => 205 | 15 => 206 | 16 => 207 | 17 => 208 | 18 => 209 | 19 => 210 | 20 => 211 | 21 => 212 | 22 => 213 | 25 => 230 | 26 => 231 | 27 => 232 | 28 => 233 | 29 => 234 | 30 => 235 | 31 => 251 | n => n, fun | 26 => 3 | 28 => 196 | 24 => 42 | 0 => 0 | 3 => 3 | 37 => 46 | 48 => 291 | 50 => 55 | 4 => 4 | 40 => 308 | 39 => 307 | 45 => 58 | 5 => 5 | 9 => 9 | 51 => 325 | 55 => 329 | 57 => 340 | 58 => 88 | 33 => 263 | n => n, fun | n => n⟩
theorem Tryz.sortedI : Go.Proofs.SlLaysZI.n6 Tryz.prog Tryz.sortedI_ren := {
  mixed := by kernel_rfl
  f6 := ⟨Tryz.f107.name, by decide, Tryz.func107.trans (congrArg some (by kernel_rfl))⟩
  f8 := ⟨Tryz.f177.name, by decide, Tryz.func177.trans (congrArg some (by kernel_rfl))⟩
  f11 := ⟨Tryz.f222.name, by decide, Tryz.func222.trans (congrArg some (by kernel_rfl))⟩
  t0 := Tryz.underlying0
  a0 := Tryz.isAgg0
  z0 := Tryz.sizeOf0
  v0 := Tryz.zeroValue0
  t24 := Tryz.underlying42
  a24 := Tryz.isAgg42
  z24 := Tryz.sizeOf42
  v24 := Tryz.zeroValue42
  t26 := Tryz.underlying3
  a26 := Tryz.isAgg3
  z26 := Tryz.sizeOf3
  v26 := Tryz.zeroValue3
  t28 := Tryz.underlying196
  a28 := Tryz.isAgg196
  z28 := Tryz.sizeOf196
  v28 := Tryz.zeroValue196
  i26 := by kernel_rfl }
def Tryz.sortI_ren : Go.Shelf.Ren := ⟨fun | 5 => 95 | 8 => 164 | 7 => 163 | 19 => 214 | 20 => 215 | 10 => 205 | 11 => 206 | 12 => 207 | 13 => 208 | 14 => 209 | 15 => 210 | 16 => 211 | 17 => 212 | 18 => 213 | 30 => 230 | 31 => 231 | 32 => 232 | 33 => 233 | 34 => 234 | 35 => 235 | 40 => 251 | n => n, fun | 23 => 42 | 25 => 3 | 3 => 3 | 32 => 46 | 22 => 42 | 0 => 0 | 44 => 291 | 46 => 55 | 4 => 4 | 36 => 308 | 35 => 307 | 41 => 58 | 5 => 5 | 9 => 9 | 53 => 325 | 57 => 329 | 63 => 340 | 64 => 88 | n => n, fun | n => n⟩
theorem Tryz.sortI : Go.Proofs.SlLaysM.n5 Tryz.prog Tryz.sortI_ren := {
  mixed := by kernel_rfl
  f5 := ⟨Tryz.f95.name, by decide, Tryz.func95.trans (congrArg some (by kernel_rfl))⟩
  f7 := ⟨Tryz.f163.name, by decide, Tryz.func163.trans (congrArg some (by kernel_rfl))⟩
  f8 := Tryz.func164.trans (congrArg some (by kernel_rfl))
  f10 := ⟨Tryz.f205.name, by decide, Tryz.func205.trans (congrArg some (by kernel_rfl))⟩
  f11 := ⟨Tryz.f206.name, by decide, Tryz.func206.trans (congrArg some (by kernel_rfl))⟩
  f12 := ⟨Tryz.f207.name, by decide, Tryz.func207.trans (congrArg some (by kernel_rfl))⟩
  f13 := ⟨Tryz.f208.name, by decide, Tryz.func208.trans (congrArg some (by kernel_rfl))⟩
  f14 := ⟨Tryz.f209.name, by decide, Tryz.func209.trans (congrArg some (by kernel_rfl))⟩
  f15 := ⟨Tryz.f210.name, by decide, Tryz.func210.trans (congrArg some (by kernel_rfl))⟩
  f16 := ⟨Tryz.f211.name, by decide, Tryz.func211.trans (congrArg some (by kernel_rfl))⟩
  f17 := ⟨Tryz.f212.name, by decide, Tryz.func212.trans (congrArg some (by kernel_rfl))⟩
  f18 := ⟨Tryz.f213.name, by decide, Tryz.func213.trans (congrArg some (by kernel_rfl))⟩
  f19 := Tryz.func214.trans (congrArg some (by kernel_rfl))
  f20 := Tryz.func215.trans (congrArg some (by kernel_rfl))
  f30 := ⟨Tryz.f230.name, by decide, Tryz.func230.trans (congrArg some (by kernel_rfl))⟩
  f31 := Tryz.func231.trans (congrArg some (by kernel_rfl))
  f32 := Tryz.func232.trans (congrArg some (by kernel_rfl))
  f33 := ⟨Tryz.f233.name, by decide, Tryz.func233.trans (congrArg some (by kernel_rfl))⟩
  f34 := ⟨Tryz.f234.name, by decide, Tryz.func234.trans (congrArg some (by kernel_rfl))⟩
  f35 := ⟨Tryz.f235.name, by decide, Tryz.func235.trans (congrArg some (by kernel_rfl))⟩
  f40 := ⟨Tryz.f251.name, by decide, Tryz.func251.trans (congrArg some (by kernel_rfl))⟩
  t0 := Tryz.underlying0
  a0 := Tryz.isAgg0
  z0 := Tryz.sizeOf0
  v0 := Tryz.zeroValue0
  t3 := Tryz.underlying3
  a3 := Tryz.isAgg3
  z3 := Tryz.sizeOf3
  v3 := Tryz.zeroValue3
  t4 := Tryz.underlying4
  a4 := Tryz.isAgg4
  z4 := Tryz.sizeOf4
  v4 := Tryz.zeroValue4
  t5 := Tryz.underlying5
  a5 := Tryz.isAgg5
  z5 := Tryz.sizeOf5
  v5 := Tryz.zeroValue5
  t9 := Tryz.underlying9
  a9 := Tryz.isAgg9
  z9 := Tryz.sizeOf9
  v9 := Tryz.zeroValue9
  t22 := Tryz.underlying42
  a22 := Tryz.isAgg42
  z22 := Tryz.sizeOf42
  v22 := Tryz.zeroValue42
  t23 := Tryz.underlying42
  a23 := Tryz.isAgg42
  z23 := Tryz.sizeOf42
  v23 := Tryz.zeroValue42
  t25 := Tryz.underlying3
  a25 := Tryz.isAgg3
  z25 := Tryz.sizeOf3
  v25 := Tryz.zeroValue3
  t32 := Tryz.underlying46
  a32 := Tryz.isAgg46
  z32 := Tryz.sizeOf46
  v32 := Tryz.zeroValue46
  t35 := Tryz.underlying307
  a35 := Tryz.isAgg307
  z35 := Tryz.sizeOf307
  v35 := Tryz.zeroValue307
  t36 := Tryz.underlying308
  a36 := Tryz.isAgg308
  z36 := Tryz.sizeOf308
  v36 := Tryz.zeroValue308
  t41 := Tryz.underlying58
  a41 := Tryz.isAgg58
  z41 := Tryz.sizeOf58
  v41 := Tryz.zeroValue58
  t44 := Tryz.underlying291
  a44 := Tryz.isAgg291
  z44 := Tryz.sizeOf291
  v44 := Tryz.zeroValue291
  t46 := Tryz.underlying55
  a46 := Tryz.isAgg55
  z46 := Tryz.sizeOf55
  v46 := Tryz.zeroValue55
  t53 := Tryz.underlying325
  a53 := Tryz.isAgg325
  z53 := Tryz.sizeOf325
  v53 := Tryz.zeroValue325
  t57 := Tryz.underlying329
  a57 := Tryz.isAgg329
  z57 := Tryz.sizeOf329
  v57 := Tryz.zeroValue329
  t63 := Tryz.underlying340
  a63 := Tryz.isAgg340
  z63 := Tryz.sizeOf340
  v63 := Tryz.zeroValue340
  t64 := Tryz.underlying88
  a64 := Tryz.isAgg88
  z64 := Tryz.sizeOf88
  v64 := Tryz.zeroValue88 }
def Tryz.keysK_ren : Go.Shelf.Ren := ⟨fun | 7 => 203 | 10 => 229 | n => n, fun | 23 => 73 | 26 => 9 | 3 => 3 | 28 => 228 | 0 => 0 | 27 => 227 | 33 => 166 | 4 => 4 | n => n, fun | n => n⟩
theorem Tryz.keysK : Go.Proofs.SlLaysZ.n7 Tryz.prog Tryz.keysK_ren := {
  mixed := by kernel_rfl
  f7 := ⟨Tryz.f203.name, by decide, Tryz.func203.trans (congrArg some (by kernel_rfl))⟩
  f10 := ⟨Tryz.f229.name, by decide, Tryz.func229.trans (congrArg some (by kernel_rfl))⟩
  t0 := Tryz.underlying0
  a0 := Tryz.isAgg0
  z0 := Tryz.sizeOf0
  v0 := Tryz.zeroValue0
  t4 := Tryz.underlying4
  a4 := Tryz.isAgg4
  z4 := Tryz.sizeOf4
  v4 := Tryz.zeroValue4
  t23 := Tryz.underlying73
  a23 := Tryz.isAgg73
  z23 := Tryz.sizeOf73
  v23 := Tryz.zeroValue73
  t26 := Tryz.underlying9
  a26 := Tryz.isAgg9
  z26 := Tryz.sizeOf9
  v26 := Tryz.zeroValue9
  t27 := Tryz.underlying227
  a27 := Tryz.isAgg227
  z27 := Tryz.sizeOf227
  v27 := Tryz.zeroValue227
  t28 := Tryz.underlying228
  a28 := Tryz.isAgg228
  z28 := Tryz.sizeOf228
  v28 := Tryz.zeroValue228
  t33 := Tryz.underlying166
  a33 := Tryz.isAgg166
  z33 := Tryz.sizeOf166
  v33 := Tryz.zeroValue166 }
def Tryz.keysU_ren : Go.Shelf.Ren := ⟨fun | 7 => 129 | 10 => 189 | n => n, fun | 23 => 212 | 26 => 9 | 3 => 123 | 28 => 228 | 0 => 0 | 27 => 227 | 33 => 166 | 4 => 4 | n => n, fun | n => n⟩
theorem Tryz.keysU : Go.Proofs.SlLaysZ.n7 Tryz.prog Tryz.keysU_ren := {
  mixed := by kernel_rfl
  f7 := ⟨Tryz.f129.name, by decide, Tryz.func129.trans (congrArg some (by kernel_rfl))⟩
  f10 := ⟨Tryz.f189.name, by decide, Tryz.func189.trans (congrArg some (by kernel_rfl))⟩
  t0 := Tryz.underlying0
  a0 := Tryz.isAgg0
  z0 := Tryz.sizeOf0
  v0 := Tryz.zeroValue0
  t4 := Tryz.underlying4
  a4 := Tryz.isAgg4
  z4 := Tryz.sizeOf4
  v4 := Tryz.zeroValue4
  t23 := Tryz.underlying212
  a23 := Tryz.isAgg212
  z23 := Tryz.sizeOf212
  v23 := Tryz.zeroValue212
  t26 := Tryz.underlying9
  a26 := Tryz.isAgg9
  z26 := Tryz.sizeOf9
  v26 := Tryz.zeroValue9
  t27 := Tryz.underlying227
  a27 := Tryz.isAgg227
  z27 := Tryz.sizeOf227
  v27 := Tryz.zeroValue227
  t28 := Tryz.underlying228
  a28 := Tryz.isAgg228
  z28 := Tryz.sizeOf228
  v28 := Tryz.zeroValue228
  t33 := Tryz.underlying166
  a33 := Tryz.isAgg166
  z33 := Tryz.sizeOf166
  v33 := Tryz.zeroValue166 }
def Tryz.keysM_ren : Go.Shelf.Ren := ⟨fun | 7 => 130 | 10 => 190 | n => n, fun | 23 => 141 | 26 => 9 | 3 => 204 | 28 => 228 | 0 => 0 | 27 => 227 | 33 => 166 | 4 => 4 | n => n, fun | n => n⟩
theorem Tryz.keysM : Go.Proofs.SlLaysZ.n7 Tryz.prog Tryz.keysM_ren := {
  mixed := by kernel_rfl
  f7 := ⟨Tryz.f130.name, by decide, Tryz.func130.trans (congrArg some (by kernel_rfl))⟩
  f10 := ⟨Tryz.f190.name, by decide, Tryz.func190.trans (congrArg some (by kernel_rfl))⟩
  t0 := Tryz.underlying0
  a0 := Tryz.isAgg0
  z0 := Tryz.sizeOf0
  v0 := Tryz.zeroValue0
  t4 := Tryz.underlying4
  a4 := Tryz.isAgg4
  z4 := Tryz.sizeOf4
  v4 := Tryz.zeroValue4
  t23 := Tryz.underlying141
  a23 := Tryz.isAgg141
  z23 := Tryz.sizeOf141
  v23 := Tryz.zeroValue141
  t26 := Tryz.underlying9
  a26 := Tryz.isAgg9
  z26 := Tryz.sizeOf9
  v26 := Tryz.zeroValue9
  t27 := Tryz.underlying227
  a27 := Tryz.isAgg227
  z27 := Tryz.sizeOf227
  v27 := Tryz.zeroValue227
  t28 := Tryz.underlying228
  a28 := Tryz.isAgg228
  z28 := Tryz.sizeOf228
  v28 := Tryz.zeroValue228
  t33 := Tryz.underlying166
  a33 := Tryz.isAgg166
  z33 := Tryz.sizeOf166
  v33 := Tryz.zeroValue166 }
def Tryz.sortedS_ren : Go.Shelf.Ren := ⟨fun | 6 => 128 | 8 => 187 | 9 => 188 | 11 => 224 | 13 => 164 | 12 => 225 | 23 => 214 | 24 => 215 | 14 => 240 | 15 => 241 | 16 => 242 | 17 => 243 | 18 => 244 | 19 => 245 | 20 => 246 | 21 => 247 | 22 => 248 | 25 => 255 | 26 => 231 | 27 => 232 | 28 => 256 | 29 => 257 | 30 => 258 | 31 => 264 | n => n, fun | 26 => 9 | 28 => 228 | 24 => 74 | 0 => 0 | 3 => 3 | 37 => 46 | 48 => 291 | 50 => 55 | 4 => 4 | 40 => 308 | 39 => 307 | 45 => 58 | 5 => 5 | 9 => 9 | 51 => 325 | 55 => 329 | 57 => 340 | 58 => 88 | 33 => 166 | n => n, fun | n => n⟩
theorem Tryz.sortedS : Go.Proofs.SlLaysZ.n6 Tryz.prog Tryz.sortedS_ren := {
  mixed := by kernel_rfl
  f6 := ⟨Tryz.f128.name, by decide, Tryz.func128.trans (congrArg some (by kernel_rfl))⟩
  f8 := ⟨Tryz.f187.name, by decide, Tryz.func187.trans (congrArg some (by kernel_rfl))⟩
  f11 := ⟨Tryz.f224.name, by decide, Tryz.func224.trans (congrArg some (by kernel_rfl))⟩
  t0 := Tryz.underlying0
  a0 := Tryz.isAgg0
  z0 := Tryz.sizeOf0
  v0 := Tryz.zeroValue0
  t24 := Tryz.underlying74
  a24 := Tryz.isAgg74
  z24 := Tryz.sizeOf74
  v24 := Tryz.zeroValue74
  t26 := Tryz.underlying9
  a26 := Tryz.isAgg9
  z26 := Tryz.sizeOf9
  v26 := Tryz.zeroValue9
  t28 := Tryz.underlying228
  a28 := Tryz.isAgg228
  z28 := Tryz.sizeOf228
  v28 := Tryz.zeroValue228
  i26 := by kernel_rfl }
def Tryz.sortS_ren : Go.Shelf.Ren := ⟨fun | 6 => 188 | 8 => 164 | 9 => 225 | 19 => 214 | 20 => 215 | 21 => 240 | 22 => 241 | 23 => 242 | 24 => 243 | 25 => 244 | 26 => 245 | 27 => 246 | 28 => 247 | 29 => 248 | 36 => 255 | 31 => 231 | 32 => 232 | 37 => 256 | 38 => 257 | 39 => 258 | 41 => 264 | n => n, fun | 27 => 74 | 29 => 9 | 3 => 3 | 32 => 46 | 26 => 74 | 0 => 0 | 44 => 291 | 46 => 55 | 4 => 4 | 36 => 308 | 35 => 307 | 41 => 58 | 5 => 5 | 9 => 9 | 53 => 325 | 57 => 329 | 63 => 340 | 64 => 88 | n => n, fun | n => n⟩
theorem Tryz.sortS : Go.Proofs.SlLaysM.n6 Tryz.prog Tryz.sortS_ren := {
  mixed := by kernel_rfl
  f6 := ⟨Tryz.f188.name, by decide, Tryz.func188.trans (congrArg some (by kernel_rfl))⟩
  f8 := Tryz.func164.trans (congrArg some (by kernel_rfl))
  f9 := ⟨Tryz.f225.name, by decide, Tryz.func225.trans (congrArg some (by kernel_rfl))⟩
  f19 := Tryz.func214.trans (congrArg some (by kernel_rfl))
  f20 := Tryz.func215.trans (congrArg some (by kernel_rfl))
  f21 := ⟨Tryz.f240.name, by decide, Tryz.func240.trans (congrArg some (by kernel_rfl))⟩
  f22 := ⟨Tryz.f241.name, by decide, Tryz.func241.trans (congrArg some (by kernel_rfl))⟩
  f23 := ⟨Tryz.f242.name, by decide, Tryz.func242.trans (congrArg some (by kernel_rfl))⟩
  f24 := ⟨Tryz.f243.name, by decide, Tryz.func243.trans (congrArg some (by kernel_rfl))⟩
  f25 := ⟨Tryz.f244.name, by decide, Tryz.func244.trans (congrArg some (by kernel_rfl))⟩
  f26 := ⟨Tryz.f245.name, by decide, Tryz.func245.trans (congrArg some (by kernel_rfl))⟩
  f27 := ⟨Tryz.f246.name, by decide, Tryz.func246.trans (congrArg some (by kernel_rfl))⟩
  f28 := ⟨Tryz.f247.name, by decide, Tryz.func247.trans (congrArg some (by kernel_rfl))⟩
  f29 := ⟨Tryz.f248.name, by decide, Tryz.func248.trans (congrArg some (by kernel_rfl))⟩
  f31 := Tryz.func231.trans (congrArg some (by kernel_rfl))
  f32 := Tryz.func232.trans (congrArg some (by kernel_rfl))
  f36 := ⟨Tryz.f255.name, by decide, Tryz.func255.trans (congrArg some (by kernel_rfl))⟩
  f37 := ⟨Tryz.f256.name, by decide, Tryz.func256.trans (congrArg some (by kernel_rfl))⟩
  f38 := ⟨Tryz.f257.name, by decide, Tryz.func257.trans (congrArg some (by kernel_rfl))⟩
  f39 := ⟨Tryz.f258.name, by decide, Tryz.func258.trans (congrArg some (by kernel_rfl))⟩
  f41 := ⟨Tryz.f264.name, by decide, Tryz.func264.trans (congrArg some (by kernel_rfl))⟩
  t0 := Tryz.underlying0
  a0 := Tryz.isAgg0
  z0 := Tryz.sizeOf0
  v0 := Tryz.zeroValue0
  t3 := Tryz.underlying3
  a3 := Tryz.isAgg3
  z3 := Tryz.sizeOf3
  v3 := Tryz.zeroValue3
  t4 := Tryz.underlying4
  a4 := Tryz.isAgg4
  z4 := Tryz.sizeOf4
  v4 := Tryz.zeroValue4
  t5 := Tryz.underlying5
  a5 := Tryz.isAgg5
  z5 := Tryz.sizeOf5
  v5 := Tryz.zeroValue5
  t9 := Tryz.underlying9
  a9 := Tryz.isAgg9
  z9 := Tryz.sizeOf9
  v9 := Tryz.zeroValue9
  t26 := Tryz.underlying74
  a26 := Tryz.isAgg74
  z26 := Tryz.sizeOf74
  v26 := Tryz.zeroValue74
  t27 := Tryz.underlying74
  a27 := Tryz.isAgg74
  z27 := Tryz.sizeOf74
  v27 := Tryz.zeroValue74
  t29 := Tryz.underlying9
  a29 := Tryz.isAgg9
  z29 := Tryz.sizeOf9
  v29 := Tryz.zeroValue9
  t32 := Tryz.underlying46
  a32 := Tryz.isAgg46
  z32 := Tryz.sizeOf46
  v32 := Tryz.zeroValue46
  t35 := Tryz.underlying307
  a35 := Tryz.isAgg307
  z35 := Tryz.sizeOf307
  v35 := Tryz.zeroValue307
  t36 := Tryz.underlying308
  a36 := Tryz.isAgg308
  z36 := Tryz.sizeOf308
  v36 := Tryz.zeroValue308
  t41 := Tryz.underlying58
  a41 := Tryz.isAgg58
  z41 := Tryz.sizeOf58
  v41 := Tryz.zeroValue58
  t44 := Tryz.underlying291
  a44 := Tryz.isAgg291
  z44 := Tryz.sizeOf291
  v44 := Tryz.zeroValue291
  t46 := Tryz.underlying55
  a46 := Tryz.isAgg55
  z46 := Tryz.sizeOf55
  v46 := Tryz.zeroValue55
  t53 := Tryz.underlying325
  a53 := Tryz.isAgg325
  z53 := Tryz.sizeOf325
  v53 := Tryz.zeroValue325
  t57 := Tryz.underlying329
  a57 := Tryz.isAgg329
  z57 := Tryz.sizeOf329
  v57 := Tryz.zeroValue329
  t63 := Tryz.underlying340
  a63 := Tryz.isAgg340
  z63 := Tryz.sizeOf340
  v63 := Tryz.zeroValue340
  t64 := Tryz.underlying88
  a64 := Tryz.isAgg88
  z64 := Tryz.sizeOf88
  v64 := Tryz.zeroValue88 }
end Go.Proofs

/- A map's keys, sorted: the library's contracts, told of memory as it is told here. -/
set_option linter.unusedSimpArgs false
set_option linter.unusedVariables false
set_option maxRecDepth 1000000
namespace Go.Proofs.YtnfomoeicgdkkaaGreatDoor

/-- texts in order -/
def sortB (l : List Bytes) : List Bytes := l.mergeSort fun x y => decide (x ≤ y)
def sortI (l : List Int) : List Int := l.mergeSort fun x y => decide (x ≤ y)

theorem sortB_perm {a b : List Bytes} (p : a.Perm b) : sortB a = sortB b := mergeSort_of_perm p
theorem sortI_perm {a b : List Int} (p : a.Perm b) : sortI a = sortI b := sort_perm p

theorem insert_perm {H : Type} (x : Lit × DataW H) : ∀ l : List (Lit × DataW H), (DataW.insert x l).Perm (x :: l) := by
  intro l
  induction l with
  | nil => exact .refl _
  | cons y l ih =>
    unfold DataW.insert
    split
    · exact .refl _
    · exact (ih.cons y).trans (.swap _ _ _)
theorem inserts_perm {H : Type} : ∀ l : List (Lit × DataW H), (l.foldr DataW.insert []).Perm l := by
  intro l
  induction l with
  | nil => exact .refl _
  | cons x l ih => exact (insert_perm x _).trans (ih.cons x)

namespace Eng
open Go.RowKit Go.Maps Go.Sort Go.Shelf

/-- a map's values, not looked at -/
def noRead : Value → Option (DataW Unit × List MemPlace) := fun _ => some (.nil, [])

theorem MapR.stamped {K : Type} {enc : K → Value} (inj : ∀ a b, enc a = enc b → a = b) {es : List MapEntry} {ck : Nat} {m : List (K × Value)} (h : MapR enc es ck m) : MapKept.Stamped es.toArray ck := by
  refine ⟨by simpa using h.lt, by simpa using h.borns, ?_⟩
  have p := h.perm.map Prod.fst
  rw [List.map_map, List.map_map] at p
  have e1 : (Prod.fst ∘ fun e : MapEntry => (e.key, e.val)) = fun e => e.key := rfl
  have e2 : (Prod.fst ∘ fun x : K × Value => (enc x.1, x.2)) = enc ∘ Prod.fst := rfl
  rw [e1, e2] at p
  show (es.map fun e => e.key).Nodup
  rw [p.nodup_iff]
  have hk := h.keys
  rw [← List.map_map]
  rw [List.Nodup, List.pairwise_map]
  exact hk.imp fun hab e => hab (inj _ _ e)

theorem MapR.owns {K : Type} {enc : K → Value} (inj : ∀ a b, enc a = enc b → a = b) {lit : K → Lit} {es : List MapEntry} {ck : Nat} {m : List (K × Value)} (h : MapR enc es ck m) {P : Program} {k : TypeId} (hk : ∀ x ∈ m, keyOf P k (enc x.1) = some (lit x.1)) {w : World} {b : Nat}
    (hb : w.heap[b]? = some (.map es.toArray ck)) (hn : m.length ≤ 1000000000000) : ∃ D0, w.ownsMap P k noRead b es.length D0 ∧ (∃ L, D0 = .map L ∧ (L.map Prod.fst).Perm (m.map fun x => lit x.1)) := by
  have hlen := h.len
  have hread : ∀ x ∈ es, ∃ y ∈ m, x.key = enc y.1 := by
    intro x hx
    have h1 : (x.key, x.val) ∈ es.map fun e => (e.key, e.val) := List.mem_map.2 ⟨x, hx, rfl⟩
    obtain ⟨y, hy, e⟩ := List.mem_map.1 (h.perm.mem_iff.1 h1)
    exact ⟨y, hy, (congrArg Prod.fst e).symm⟩
  have hrd : ∀ x ∈ es, ∃ y ∈ m, x.key = enc y.1 ∧ WideElems.rd P k noRead x = some (lit y.1, .nil) := by
    intro x hx
    obtain ⟨y, hy, e⟩ := hread x hx
    refine ⟨y, hy, e, ?_⟩
    unfold WideElems.rd
    rw [e, hk y hy]
    rfl
  refine ⟨_, ⟨es.toArray, ck, hb, ⟨by simp [maxLen]; omega, h.stamped inj, ?_⟩, by simp, rfl⟩, _, rfl, ?_⟩
  · intro x hx
    obtain ⟨y, _, _, e⟩ := hrd x (by simpa using hx)
    exact ⟨_, e⟩
  · refine ((inserts_perm _).map Prod.fst).trans ?_
    rw [List.map_map]
    have e1 : (es.toArray.toList.map (Prod.fst ∘ WideElems.rg P k noRead)) = es.map fun e => (keyOf P k e.key).getD (.bool false) := by
      apply List.map_congr_left
      intro x hx
      obtain ⟨y, hy, e, hy2⟩ := hrd x hx
      show (WideElems.rg P k noRead x).1 = _
      rw [WideElems.rg_of hy2, e, hk y hy]
      rfl
    rw [e1]
    have p := h.perm.map fun z : Value × Value => (keyOf P k z.1).getD (.bool false)
    rw [List.map_map, List.map_map] at p
    refine p.trans ?_
    have e2 : m.map ((fun z : Value × Value => (keyOf P k z.1).getD (.bool false)) ∘ fun x => (enc x.1, x.2)) = m.map fun x => lit x.1 := by
      apply List.map_congr_left
      intro x hx
      show (keyOf P k (enc x.1)).getD _ = _
      rw [hk x hx]; rfl
    rw [e2]

/-- a call that lays a slice of its own, and turns nothing else -/
theorem spec_of_row {P : Program} {g : FuncId} {args : Array Value} {F : Hp} {T : TypeId} {n : Nat} {xs : List Value}
    (hc : ∀ w h, Fits F h w → Calls P g args w fun e w' => ∃ v, e = .returned v ∧ w'.ownsRow w.heap.size T 1 v n xs ∧ Below w.heap.size w w') :
    Spec P g args F [] fun v H => ∃ a c, v = .slice a n c ∧ H = [OwnS a n c 1 T xs] := by
  unfold Spec
  intro w h q f
  refine (hc w h f).mono ?_
  rintro e w' ⟨v, rfl, ⟨hl, hrow⟩, hb⟩
  obtain ⟨f', k'⟩ := fits_below f hb
  rcases hrow with ⟨rfl, h0⟩ | ⟨gb, cap, cur, rfl, hbase, hgb, r1, _, r3, r4⟩
  · subst h0
    have hx : xs = [] := List.length_eq_zero_iff.1 (by simpa using hl)
    subst hx
    exact ⟨_, _, h, rfl, ⟨none, 0, rfl, rfl⟩, own_new (H := []) h trivial, f', k'⟩
  · have hFn : F gb = none := by
      cases hx : F gb with
      | none => rfl
      | some o =>
        have := f.frm _ _ hx
        rw [Array.getElem?_eq_none (by omega)] at this; cases this
    have hcur : cur = (xs ++ cur.toList.drop n).toArray := by
      have := List.take_append_drop (n * 1) cur.toList
      rw [r4, Nat.mul_one] at this
      rw [this]
    refine ⟨_, _, fun k => if k = gb then some (.cells cur T (0, 0)) else none, rfl, ⟨_, _, rfl, rfl⟩, ?_, ⟨fun k => ?_, fun k o hk => ?_, f'.frm⟩, k'⟩
    · refine ⟨_, noHp, (Split.empty _).symm, ⟨_, ⟨hl, .inr ⟨gb, cur.toList.drop n, rfl, r1, ?_, rfl⟩⟩, ?_⟩, trivial⟩
      · have := congrArg Array.size hcur
        simp only [List.size_toArray] at this
        rw [← this, r3]
      · refine ⟨_, noHp, (Split.empty _).symm, ?_, trivial⟩
        show (if gb = gb then some (Obj.cells cur T (0, 0)) else none) = _
        rw [if_pos rfl, ← hcur]
    · by_cases e : k = gb
      · subst e; exact .inr hFn
      · exact .inl (if_neg e)
    · by_cases e : k = gb
      · subst e
        rw [if_pos rfl] at hk
        cases hk
        exact hgb
      · rw [if_neg e] at hk; cases hk

theorem sortsI_ (m : Nat) : AnyZI.SortsIn Tryz.prog Tryz.sortedI_ren Fence.wide m :=
  ⟨fun blk off cap ss W hH hblk hsz => callsIn_wide.2 (AnyM.slices_Sort_int Tryz.sortI blk off cap ss W hH hblk hsz),
   fun p cap W => callsIn_wide.2 (AnyM.slices_Sort_int_none Tryz.sortI p cap W)⟩
theorem sortsS_ (m : Nat) : AnyZ.SortsIn Tryz.prog Tryz.sortedS_ren Fence.wide m :=
  ⟨fun blk off cap ss W hH hblk hsz => callsIn_wide.2 (AnyM.slices_Sort_string Tryz.sortS blk off cap ss W hH hblk hsz),
   fun p cap W => callsIn_wide.2 (AnyM.slices_Sort_string_none Tryz.sortS p cap W)⟩

theorem encI_inj : ∀ a b : Int, encI a = encI b → a = b := fun a b h => by injection h
theorem sv_inj : ∀ a b : Bytes, sv a = sv b → a = b := fun a b h => by
  injection h with h
  injection h with h
  injection h

theorem key_int {P : Program} {k : TypeId} (hk : P.underlying k = some (.int .i64)) {x : Int} (h : -9223372036854775808 ≤ x ∧ x < 9223372036854775808) : keyOf P k (encI x) = some (.int .i64 x) := by
  unfold keyOf
  rw [hk]
  simp only [mapKey, hk]
  rw [if_pos]
  refine ⟨trivial, ?_⟩
  simp [Lit.wf, IntKind.min, IntKind.max, IntKind.signed, IntKind.bits]
  omega
theorem key_str {P : Program} {k : TypeId} (hk : P.underlying k = some .string) {x : Bytes} (h : x.length ≤ 1000000000000) : keyOf P k (sv x) = some (.string x) := by
  unfold keyOf
  rw [hk]
  simp only [mapKey, hk]
  rw [if_pos]
  have : ByteArray.size ⟨x.toArray⟩ = x.length := by simp [ByteArray.size]
  rw [this]
  simp [maxLen]
  omega
set_option maxHeartbeats 4000000 in
theorem sortedI_calls (g : Nat) (lb : Array Value) (eg : ∀ args w, (callFunc g args).run Tryz.prog w = .ok (.enter g args) w) (S : List Int → Prop) (N : Nat) (hN : N ≤ 1000000) (w : World) (hseq : SeqGives Fence.wide 2 Tryz.prog g lb encZ S N w) :
    Calls Tryz.prog 107 [.func (.func g) (List.toArray []) lb].toArray w fun e w' => ∃ (v : Value) (ss : List Int), e = .returned v ∧ S ss ∧ w'.ownsRow w.heap.size 3 1 v ss.length ((ss.mergeSort (fun x y => decide (x ≤ y))).map encZ) ∧ (v = .slice none 0 0 ↔ ss = []) ∧ Below w.heap.size w w' :=
  callsIn_wide.1 (AnyZI.sorted_in Tryz.sortedI Fence.wide 5 trivial trivial trivial trivial rfl (by omega) (sortsI_ _) (enters_of Tryz.func95 (by kernel_rfl) rfl) g lb trivial eg S N (by simp [maxLen]; omega) (by omega) w hseq)

set_option maxHeartbeats 4000000 in
theorem sortedS_calls (g : Nat) (lb : Array Value) (eg : ∀ args w, (callFunc g args).run Tryz.prog w = .ok (.enter g args) w) (S : List (List UInt8) → Prop) (N : Nat) (hN : N ≤ 1000000) (w : World) (hseq : SeqGives Fence.wide 2 Tryz.prog g lb encStr S N w) :
    Calls Tryz.prog 128 [.func (.func g) (List.toArray []) lb].toArray w fun e w' => ∃ (v : Value) (ss : List (List UInt8)), e = .returned v ∧ S ss ∧ w'.ownsRow w.heap.size 9 1 v ss.length ((ss.mergeSort (fun x y => decide (x ≤ y))).map encStr) ∧ (v = .slice none 0 0 ↔ ss = []) ∧ Below w.heap.size w w' :=
  callsIn_wide.1 (AnyZ.sorted_in Tryz.sortedS Fence.wide 5 trivial trivial trivial trivial rfl (by omega) (sortsS_ _) (enters_of Tryz.func188 (by kernel_rfl) rfl) g lb trivial eg S N (by simp [maxLen]; omega) (by omega) w hseq)

attribute [local irreducible] Ops Segs Run Spec

theorem keys_node (r : Option Nat) (F : Hp) : Spec Tryz.prog 202 [.map r].toArray F [] fun v H => ∃ b, v = .func (.func 228) (List.toArray []) [.pointer (some ⟨b, 0, none⟩)].toArray ∧ H = [.pt b (.cells [.map r].toArray 167 (0, 0))] := by
  refine Spec.enterC (n := 4) Tryz.func202 rfl (by simp) (by kernel_rfl) fun ec hc => ?_
  cbv at hc
  injection hc with hc
  subst hc
  simp only [argFr, Nat.reduceAdd]
  refine go ?_
  refine Ops.box (vs := [.map r]) rfl rfl fun b => ?_
  refine go ?_
  refine Ops.mkf rfl ?_
  refine go ?_
  exact Run.ret1 Tryz.func202 rfl rfl (fun h q => q) ⟨b, rfl, rfl⟩

theorem sorted_node (r b : Nat) (es : List MapEntry) (ck : Nat) (m : List (Int × Value)) (hm : MapR encI es ck m) (hn : m.length ≤ 1000000) (hw : ∀ x ∈ m, -9223372036854775808 ≤ x.1 ∧ x.1 < 9223372036854775808) (F : Hp)
    (hb : F b = some (.cells [.map (some r)].toArray 167 (0, 0))) (hr : F r = some (.map es.toArray ck)) :
    Spec Tryz.prog 107 [.func (.func 228) (List.toArray []) [.pointer (some ⟨b, 0, none⟩)].toArray].toArray F [] fun v H => ∃ a c, v = .slice a m.length c ∧ H = [OwnS a m.length c 1 3 ((sortI (m.map Prod.fst)).map encI)] := by
  refine spec_of_row fun w h f => ?_
  have hwb := f.frm _ _ hb
  have hwr := f.frm _ _ hr
  have hlt : b < w.heap.size := by
    rcases Nat.lt_or_ge b w.heap.size with x | x
    · exact x
    · rw [Array.getElem?_eq_none x] at hwb; cases hwb
  obtain ⟨D0, hown, L, rfl, hperm⟩ := hm.owns encI_inj (lit := fun x => .int .i64 x) (P := Tryz.prog) (k := 3) (fun x hx => key_int Tryz.underlying3 (hw x hx)) hwr (by omega)
  have hks : (intKeys (DataW.map L)).Perm (m.map Prod.fst) := by
    have p := hperm.map fun l : Lit => Go.intOf l
    rw [List.map_map, List.map_map] at p
    exact p
  have hsz : Maps.size (DataW.map L) = m.length := by
    have := hperm.length_eq
    rw [List.length_map, List.length_map] at this
    exact this
  have hseq : SeqGives Fence.wide 2 Tryz.prog 228 [.pointer (some ⟨b, 0, none⟩)].toArray encZ (fun ss => ss.Perm (intKeys (DataW.map L))) (Maps.size (DataW.map L)) w :=
    AnyZI.keys_gives (ρ := Tryz.keysN_ren) { Tryz.keysN with } Fence.wide _ trivial rfl (by omega) b r es.length (DataW.map L) w hlt (by simp [World.cell?, hwb]) hown
  refine (sortedI_calls _ _ (enters_of Tryz.func228 (by kernel_rfl) rfl) _ _ (by rw [hsz]; omega) w hseq).mono ?_
  rintro e w' ⟨v, ss, rfl, hS, hrow, hnil, hbl⟩
  have hlen : ss.length = m.length := by
    have := (hS.trans hks).length_eq
    rw [List.length_map] at this
    exact this
  refine ⟨v, rfl, ?_, hbl⟩
  rw [hlen] at hrow
  have es2 : ss.mergeSort (fun x y => decide (x ≤ y)) = sortI (m.map Prod.fst) := sortI_perm (hS.trans hks)
  rw [es2] at hrow
  exact hrow

theorem keys_proc (r : Option Nat) (F : Hp) : Spec Tryz.prog 108 [.map r].toArray F [] fun v H => ∃ b, v = .func (.func 178) (List.toArray []) [.pointer (some ⟨b, 0, none⟩)].toArray ∧ H = [.pt b (.cells [.map r].toArray 188 (0, 0))] := by
  refine Spec.enterC (n := 4) Tryz.func108 rfl (by simp) (by kernel_rfl) fun ec hc => ?_
  cbv at hc
  injection hc with hc
  subst hc
  simp only [argFr, Nat.reduceAdd]
  refine go ?_
  refine Ops.box (vs := [.map r]) rfl rfl fun b => ?_
  refine go ?_
  refine Ops.mkf rfl ?_
  refine go ?_
  exact Run.ret1 Tryz.func108 rfl rfl (fun h q => q) ⟨b, rfl, rfl⟩

theorem sorted_proc (r b : Nat) (es : List MapEntry) (ck : Nat) (m : List (Int × Value)) (hm : MapR encI es ck m) (hn : m.length ≤ 1000000) (hw : ∀ x ∈ m, -9223372036854775808 ≤ x.1 ∧ x.1 < 9223372036854775808) (F : Hp)
    (hb : F b = some (.cells [.map (some r)].toArray 188 (0, 0))) (hr : F r = some (.map es.toArray ck)) :
    Spec Tryz.prog 107 [.func (.func 178) (List.toArray []) [.pointer (some ⟨b, 0, none⟩)].toArray].toArray F [] fun v H => ∃ a c, v = .slice a m.length c ∧ H = [OwnS a m.length c 1 3 ((sortI (m.map Prod.fst)).map encI)] := by
  refine spec_of_row fun w h f => ?_
  have hwb := f.frm _ _ hb
  have hwr := f.frm _ _ hr
  have hlt : b < w.heap.size := by
    rcases Nat.lt_or_ge b w.heap.size with x | x
    · exact x
    · rw [Array.getElem?_eq_none x] at hwb; cases hwb
  obtain ⟨D0, hown, L, rfl, hperm⟩ := hm.owns encI_inj (lit := fun x => .int .i64 x) (P := Tryz.prog) (k := 3) (fun x hx => key_int Tryz.underlying3 (hw x hx)) hwr (by omega)
  have hks : (intKeys (DataW.map L)).Perm (m.map Prod.fst) := by
    have p := hperm.map fun l : Lit => Go.intOf l
    rw [List.map_map, List.map_map] at p
    exact p
  have hsz : Maps.size (DataW.map L) = m.length := by
    have := hperm.length_eq
    rw [List.length_map, List.length_map] at this
    exact this
  have hseq : SeqGives Fence.wide 2 Tryz.prog 178 [.pointer (some ⟨b, 0, none⟩)].toArray encZ (fun ss => ss.Perm (intKeys (DataW.map L))) (Maps.size (DataW.map L)) w :=
    AnyZI.keys_gives (ρ := Tryz.keysP_ren) { Tryz.keysP with } Fence.wide _ trivial rfl (by omega) b r es.length (DataW.map L) w hlt (by simp [World.cell?, hwb]) hown
  refine (sortedI_calls _ _ (enters_of Tryz.func178 (by kernel_rfl) rfl) _ _ (by rw [hsz]; omega) w hseq).mono ?_
  rintro e w' ⟨v, ss, rfl, hS, hrow, hnil, hbl⟩
  have hlen : ss.length = m.length := by
    have := (hS.trans hks).length_eq
    rw [List.length_map] at this
    exact this
  refine ⟨v, rfl, ?_, hbl⟩
  rw [hlen] at hrow
  have es2 : ss.mergeSort (fun x y => decide (x ≤ y)) = sortI (m.map Prod.fst) := sortI_perm (hS.trans hks)
  rw [es2] at hrow
  exact hrow

theorem keys_kid (r : Option Nat) (F : Hp) : Spec Tryz.prog 203 [.map r].toArray F [] fun v H => ∃ b, v = .func (.func 229) (List.toArray []) [.pointer (some ⟨b, 0, none⟩)].toArray ∧ H = [.pt b (.cells [.map r].toArray 73 (0, 0))] := by
  refine Spec.enterC (n := 4) Tryz.func203 rfl (by simp) (by kernel_rfl) fun ec hc => ?_
  cbv at hc
  injection hc with hc
  subst hc
  simp only [argFr, Nat.reduceAdd]
  refine go ?_
  refine Ops.box (vs := [.map r]) rfl rfl fun b => ?_
  refine go ?_
  refine Ops.mkf rfl ?_
  refine go ?_
  exact Run.ret1 Tryz.func203 rfl rfl (fun h q => q) ⟨b, rfl, rfl⟩

theorem sorted_kid (r b : Nat) (es : List MapEntry) (ck : Nat) (m : List (Bytes × Value)) (hm : MapR sv es ck m) (hn : m.length ≤ 1000000) (hw : ∀ x ∈ m, x.1.length ≤ 1000000000000) (F : Hp)
    (hb : F b = some (.cells [.map (some r)].toArray 73 (0, 0))) (hr : F r = some (.map es.toArray ck)) :
    Spec Tryz.prog 128 [.func (.func 229) (List.toArray []) [.pointer (some ⟨b, 0, none⟩)].toArray].toArray F [] fun v H => ∃ a c, v = .slice a m.length c ∧ H = [OwnS a m.length c 1 9 ((sortB (m.map Prod.fst)).map sv)] := by
  refine spec_of_row fun w h f => ?_
  have hwb := f.frm _ _ hb
  have hwr := f.frm _ _ hr
  have hlt : b < w.heap.size := by
    rcases Nat.lt_or_ge b w.heap.size with x | x
    · exact x
    · rw [Array.getElem?_eq_none x] at hwb; cases hwb
  obtain ⟨D0, hown, L, rfl, hperm⟩ := hm.owns sv_inj (lit := fun x => .string x) (P := Tryz.prog) (k := 9) (fun x hx => key_str Tryz.underlying9 (hw x hx)) hwr (by omega)
  have hks : (strKeys (DataW.map L)).Perm (m.map Prod.fst) := by
    have p := hperm.map fun l : Lit => Go.strOf l
    rw [List.map_map, List.map_map] at p
    exact p
  have hsz : Maps.size (DataW.map L) = m.length := by
    have := hperm.length_eq
    rw [List.length_map, List.length_map] at this
    exact this
  have hseq : SeqGives Fence.wide 2 Tryz.prog 229 [.pointer (some ⟨b, 0, none⟩)].toArray encStr (fun ss => ss.Perm (strKeys (DataW.map L))) (Maps.size (DataW.map L)) w :=
    AnyZ.keys_gives (ρ := Tryz.keysK_ren) { Tryz.keysK with } Fence.wide _ trivial rfl (by omega) b r es.length (DataW.map L) w hlt (by simp [World.cell?, hwb]) hown
  refine (sortedS_calls _ _ (enters_of Tryz.func229 (by kernel_rfl) rfl) _ _ (by rw [hsz]; omega) w hseq).mono ?_
  rintro e w' ⟨v, ss, rfl, hS, hrow, hnil, hbl⟩
  have hlen : ss.length = m.length := by
    have := (hS.trans hks).length_eq
    rw [List.length_map] at this
    exact this
  refine ⟨v, rfl, ?_, hbl⟩
  rw [hlen] at hrow
  have es2 : ss.mergeSort (fun x y => decide (x ≤ y)) = sortB (m.map Prod.fst) := sortB_perm (hS.trans hks)
  rw [es2] at hrow
  exact hrow

theorem keys_unit (r : Option Nat) (F : Hp) : Spec Tryz.prog 129 [.map r].toArray F [] fun v H => ∃ b, v = .func (.func 189) (List.toArray []) [.pointer (some ⟨b, 0, none⟩)].toArray ∧ H = [.pt b (.cells [.map r].toArray 212 (0, 0))] := by
  refine Spec.enterC (n := 4) Tryz.func129 rfl (by simp) (by kernel_rfl) fun ec hc => ?_
  cbv at hc
  injection hc with hc
  subst hc
  simp only [argFr, Nat.reduceAdd]
  refine go ?_
  refine Ops.box (vs := [.map r]) rfl rfl fun b => ?_
  refine go ?_
  refine Ops.mkf rfl ?_
  refine go ?_
  exact Run.ret1 Tryz.func129 rfl rfl (fun h q => q) ⟨b, rfl, rfl⟩

theorem sorted_unit (r b : Nat) (es : List MapEntry) (ck : Nat) (m : List (Bytes × Value)) (hm : MapR sv es ck m) (hn : m.length ≤ 1000000) (hw : ∀ x ∈ m, x.1.length ≤ 1000000000000) (F : Hp)
    (hb : F b = some (.cells [.map (some r)].toArray 212 (0, 0))) (hr : F r = some (.map es.toArray ck)) :
    Spec Tryz.prog 128 [.func (.func 189) (List.toArray []) [.pointer (some ⟨b, 0, none⟩)].toArray].toArray F [] fun v H => ∃ a c, v = .slice a m.length c ∧ H = [OwnS a m.length c 1 9 ((sortB (m.map Prod.fst)).map sv)] := by
  refine spec_of_row fun w h f => ?_
  have hwb := f.frm _ _ hb
  have hwr := f.frm _ _ hr
  have hlt : b < w.heap.size := by
    rcases Nat.lt_or_ge b w.heap.size with x | x
    · exact x
    · rw [Array.getElem?_eq_none x] at hwb; cases hwb
  obtain ⟨D0, hown, L, rfl, hperm⟩ := hm.owns sv_inj (lit := fun x => .string x) (P := Tryz.prog) (k := 9) (fun x hx => key_str Tryz.underlying9 (hw x hx)) hwr (by omega)
  have hks : (strKeys (DataW.map L)).Perm (m.map Prod.fst) := by
    have p := hperm.map fun l : Lit => Go.strOf l
    rw [List.map_map, List.map_map] at p
    exact p
  have hsz : Maps.size (DataW.map L) = m.length := by
    have := hperm.length_eq
    rw [List.length_map, List.length_map] at this
    exact this
  have hseq : SeqGives Fence.wide 2 Tryz.prog 189 [.pointer (some ⟨b, 0, none⟩)].toArray encStr (fun ss => ss.Perm (strKeys (DataW.map L))) (Maps.size (DataW.map L)) w :=
    AnyZ.keys_gives (ρ := Tryz.keysU_ren) { Tryz.keysU with } Fence.wide _ trivial rfl (by omega) b r es.length (DataW.map L) w hlt (by simp [World.cell?, hwb]) hown
  refine (sortedS_calls _ _ (enters_of Tryz.func189 (by kernel_rfl) rfl) _ _ (by rw [hsz]; omega) w hseq).mono ?_
  rintro e w' ⟨v, ss, rfl, hS, hrow, hnil, hbl⟩
  have hlen : ss.length = m.length := by
    have := (hS.trans hks).length_eq
    rw [List.length_map] at this
    exact this
  refine ⟨v, rfl, ?_, hbl⟩
  rw [hlen] at hrow
  have es2 : ss.mergeSort (fun x y => decide (x ≤ y)) = sortB (m.map Prod.fst) := sortB_perm (hS.trans hks)
  rw [es2] at hrow
  exact hrow

theorem keys_state (r : Option Nat) (F : Hp) : Spec Tryz.prog 130 [.map r].toArray F [] fun v H => ∃ b, v = .func (.func 190) (List.toArray []) [.pointer (some ⟨b, 0, none⟩)].toArray ∧ H = [.pt b (.cells [.map r].toArray 141 (0, 0))] := by
  refine Spec.enterC (n := 4) Tryz.func130 rfl (by simp) (by kernel_rfl) fun ec hc => ?_
  cbv at hc
  injection hc with hc
  subst hc
  simp only [argFr, Nat.reduceAdd]
  refine go ?_
  refine Ops.box (vs := [.map r]) rfl rfl fun b => ?_
  refine go ?_
  refine Ops.mkf rfl ?_
  refine go ?_
  exact Run.ret1 Tryz.func130 rfl rfl (fun h q => q) ⟨b, rfl, rfl⟩

theorem sorted_state (r b : Nat) (es : List MapEntry) (ck : Nat) (m : List (Bytes × Value)) (hm : MapR sv es ck m) (hn : m.length ≤ 1000000) (hw : ∀ x ∈ m, x.1.length ≤ 1000000000000) (F : Hp)
    (hb : F b = some (.cells [.map (some r)].toArray 141 (0, 0))) (hr : F r = some (.map es.toArray ck)) :
    Spec Tryz.prog 128 [.func (.func 190) (List.toArray []) [.pointer (some ⟨b, 0, none⟩)].toArray].toArray F [] fun v H => ∃ a c, v = .slice a m.length c ∧ H = [OwnS a m.length c 1 9 ((sortB (m.map Prod.fst)).map sv)] := by
  refine spec_of_row fun w h f => ?_
  have hwb := f.frm _ _ hb
  have hwr := f.frm _ _ hr
  have hlt : b < w.heap.size := by
    rcases Nat.lt_or_ge b w.heap.size with x | x
    · exact x
    · rw [Array.getElem?_eq_none x] at hwb; cases hwb
  obtain ⟨D0, hown, L, rfl, hperm⟩ := hm.owns sv_inj (lit := fun x => .string x) (P := Tryz.prog) (k := 9) (fun x hx => key_str Tryz.underlying9 (hw x hx)) hwr (by omega)
  have hks : (strKeys (DataW.map L)).Perm (m.map Prod.fst) := by
    have p := hperm.map fun l : Lit => Go.strOf l
    rw [List.map_map, List.map_map] at p
    exact p
  have hsz : Maps.size (DataW.map L) = m.length := by
    have := hperm.length_eq
    rw [List.length_map, List.length_map] at this
    exact this
  have hseq : SeqGives Fence.wide 2 Tryz.prog 190 [.pointer (some ⟨b, 0, none⟩)].toArray encStr (fun ss => ss.Perm (strKeys (DataW.map L))) (Maps.size (DataW.map L)) w :=
    AnyZ.keys_gives (ρ := Tryz.keysM_ren) { Tryz.keysM with } Fence.wide _ trivial rfl (by omega) b r es.length (DataW.map L) w hlt (by simp [World.cell?, hwb]) hown
  refine (sortedS_calls _ _ (enters_of Tryz.func190 (by kernel_rfl) rfl) _ _ (by rw [hsz]; omega) w hseq).mono ?_
  rintro e w' ⟨v, ss, rfl, hS, hrow, hnil, hbl⟩
  have hlen : ss.length = m.length := by
    have := (hS.trans hks).length_eq
    rw [List.length_map] at this
    exact this
  refine ⟨v, rfl, ?_, hbl⟩
  rw [hlen] at hrow
  have es2 : ss.mergeSort (fun x y => decide (x ≤ y)) = sortB (m.map Prod.fst) := sortB_perm (hS.trans hks)
  rw [es2] at hrow
  exact hrow
end Eng
end Go.Proofs.YtnfomoeicgdkkaaGreatDoor

/- Names are short, and few; a tree's blocks, all of them; what a tree's dump is. -/
set_option linter.unusedSimpArgs false
set_option linter.unusedVariables false
namespace Go.Proofs.YtnfomoeicgdkkaaGreatDoor

def NeatN (n : NodeS) (N : Nat) : Prop := n.kids.length ≤ N ∧ ∀ x ∈ n.kids, x.1.length ≤ 12
def TreeS.Neat (T : TreeS) (N : Nat) : Prop := ∀ i n, aget T.nodes i = some n → NeatN n N

theorem NeatN.mono {n : NodeS} {N M : Nat} (h : NeatN n N) (e : N ≤ M) : NeatN n M := ⟨Nat.le_trans h.1 e, h.2⟩
theorem TreeS.Neat.mono {T : TreeS} {N M : Nat} (h : T.Neat N) (e : N ≤ M) : T.Neat M := fun i n hi => (h i n hi).mono e

theorem place_name {T : TreeS} {p s : Bytes} {d : Int} (h : T.place p = (d, s, 0)) : s.length ≤ 12 := by
  unfold TreeS.place at h
  cases hp : parentP p with
  | none => rw [hp] at h; simp at h
  | some x =>
    obtain ⟨q, s'⟩ := x
    rw [hp] at h
    dsimp only at h
    split at h
    · simp at h
    · split at h
      · simp at h
      · simp only [Prod.mk.injEq] at h
        obtain ⟨_, rfl, _⟩ := h
        unfold parentP at hp
        cases hs : splitP p with
        | none => rw [hs] at hp; cases hp
        | some l =>
          rw [hs] at hp
          dsimp only at hp
          split at hp
          · cases hp
          · rename_i hl
            cases hp
            have hn := (splitP_names hs).2
            rw [List.getLastD_eq_getLast?, List.getLast?_eq_some_getLast hl]
            exact nameOk_len (hn _ (List.getLast_mem hl))

theorem updN_neat {T : TreeS} {d : Int} {f : NodeS → NodeS} {N M : Nat} (h : T.Neat N) (e : N ≤ M) (hf : ∀ n, NeatN n N → NeatN (f n) M) : (updN T d f).Neat M := by
  intro i n hi
  cases hd : aget T.nodes d with
  | none =>
    have : updN T d f = T := by unfold updN; rw [hd]
    rw [this] at hi
    exact (h i n hi).mono e
  | some m =>
    rw [updN_get hd] at hi
    split at hi
    · cases hi; exact hf m (h d m hd)
    · exact (h i n hi).mono e

theorem noKid_neat {n : NodeS} {N : Nat} (s : Bytes) (h : NeatN n N) : NeatN (noKid s n) N :=
  ⟨Nat.le_trans (adel_len _ _) h.1, fun x hx => h.2 x (List.mem_filter.1 hx).1⟩
theorem putKid_neat {n : NodeS} {N : Nat} {s : Bytes} (hs : s.length ≤ 12) (k : Int) (h : NeatN n N) : NeatN (putKid s k n) (N + 1) := by
  refine ⟨?_, ?_⟩
  · show (aput n.kids s k).length ≤ _
    unfold aput
    have := adel_len n.kids s
    have := h.1
    simp only [List.length_cons]
    omega
  · intro x hx
    cases hx with
    | head => exact hs
    | tail _ hx => exact h.2 x (List.mem_filter.1 hx).1

theorem del_neat {T : TreeS} {N : Nat} (h : T.Neat N) (i : Int) : TreeS.Neat { T with nodes := adel T.nodes i } N := by
  intro k n hk
  have e : aget (adel T.nodes i) k = some n := hk
  rw [aget_adel] at e
  split at e
  · cases e
  · exact h k n e

theorem mkAt_neat {T : TreeS} {N : Nat} (h : T.Neat N) (d : Int) {s : Bytes} (hs : s.length ≤ 12) {n : NodeS} (hn : n.kids = []) : (mkAt T d s n).Neat (N + 1) := by
  unfold mkAt
  cases hd : aget T.nodes d with
  | none => exact h.mono (by omega)
  | some m =>
    dsimp only
    intro i k hi
    rw [mkT_get] at hi
    split at hi
    · cases hi; exact putKid_neat hs _ (h d m hd)
    · split at hi
      · cases hi; exact ⟨by rw [hn]; simp, by rw [hn]; simp⟩
      · exact (h i k hi).mono (by omega)

theorem fileT_neat {T : TreeS} {N : Nat} (h : T.Neat N) (kind : Int) (tgt data : Bytes) (d : Int) (s : Bytes) (i : Int) : (fileT T kind tgt data d s i).2.Neat (N + 1) := by
  have same : ∀ {T' : TreeS} (d' : Int), T'.Neat N → (updN T' d' (noKid s)).Neat N := fun d' h' => updN_neat h' (Nat.le_refl _) fun n hn => noKid_neat s hn
  unfold fileT
  split
  · exact updN_neat h (by omega) fun n hn => ⟨by simp [written], by simp [written]⟩
  · split
    · exact updN_neat (same d h) (by omega) fun n hn => hn.mono (by omega)
    · split
      · exact h.mono (by omega)
      · rename_i he
        have hs : (T.place tgt).2.1.length ≤ 12 := place_name (T := T) (p := tgt) (d := (T.place tgt).1) (by
          have : (T.place tgt).2.2 = 0 := by simpa using he
          rw [← this])
        dsimp only
        split
        · exact h.mono (by omega)
        · split
          · exact h.mono (by omega)
          · split
            · exact h.mono (by omega)
            · split
              · exact updN_neat (updN_neat h (Nat.le_refl _) fun n hn => hn) (by omega) fun n hn => putKid_neat hs _ hn
              · refine updN_neat (N := N) (same d ?_) (by omega) fun n hn => putKid_neat hs _ hn
                split
                · exact updN_neat h (Nat.le_refl _) fun n hn => hn
                · exact h

theorem stepT_neat {T : TreeS} {N : Nat} (h : T.Neat N) (o : OpS) : (stepT T o).2.Neat (N + 1) := by
  unfold stepT
  split
  · exact h.mono (by omega)
  split
  · exact h.mono (by omega)
  rename_i he
  have hs : (T.place o.path).2.1.length ≤ 12 := place_name (T := T) (p := o.path) (d := (T.place o.path).1) (by
    have : (T.place o.path).2.2 = 0 := by simpa using he
    rw [← this])
  split
  · exact h.mono (by omega)
  split
  · split
    · exact h.mono (by omega)
    · exact mkAt_neat h _ hs (by split <;> rfl)
  · split
    · exact h.mono (by omega)
    · split
      · split
        · exact h.mono (by omega)
        · split
          · exact h.mono (by omega)
          · unfold rmAt
            exact (del_neat (updN_neat h (Nat.le_refl _) fun n hn => noKid_neat _ hn) _).mono (by omega)
      · split
        · exact h.mono (by omega)
        · exact fileT_neat h _ _ _ _ _ _

theorem foldT_neat : ∀ (ops : List OpS) {T : TreeS} {N : Nat} (_ : T.Neat N), (foldT T ops).2.Neat (N + ops.length) := by
  intro ops
  induction ops with
  | nil => intro T N h; exact h
  | cons o r ih =>
    intro T N h
    have h1 := stepT_neat h o
    unfold foldT
    split
    · have := ih h1
      rw [List.length_cons, show N + (r.length + 1) = N + 1 + r.length by omega]
      exact this
    · exact h1.mono (by simp)
theorem doT_neat {T : TreeS} {N : Nat} (h : T.Neat N) (ops : List OpS) : (doT T ops).2.Neat (N + ops.length) := by
  unfold doT
  split
  · exact h.mono (by omega)
  · split
    · exact h.mono (by omega)
    · split
      · exact h.mono (by omega)
      · exact foldT_neat ops h
theorem reapAll_neat : ∀ (ids : List Int) {T : TreeS} {N : Nat}, T.Neat N → (reapAll T ids).Neat N
  | [], _, _, h => h
  | i :: ids, T, N, h => reapAll_neat ids (T := reap1 T i) (by
      unfold reap1
      split
      · exact del_neat h i
      · exact h)
theorem newT_neat (q : Int) : (newT q).Neat 0 := by
  intro i n h
  unfold newT at h
  rw [aget_cons] at h
  split at h
  · cases h; exact ⟨Nat.le_refl _, by simp⟩
  · simp [aget] at h

/-- a directory's names in a dump -/
def kidsD (n : NodeS) : List Bytes := (sortB (n.kids.map Prod.fst)).flatMap fun s => [raw s, le4 (kidOf n s).toNat]
def rowParts (i : Int) (n : NodeS) : List Bytes := [le4 i.toNat, le4 n.links.toNat, raw n.data] ++ if n.dir = true then le4 1 :: kidsD n else []
def dumpRow (i : Int) (n : NodeS) : Bytes := (rowParts i n).flatten
def dumpAt (T : TreeS) (i : Int) : List Bytes := match aget T.nodes i with
  | none => []
  | some n => if n.links = 0 then [] else [dumpRow i n]
def dumpT (T : TreeS) : List Bytes := le4 T.next.toNat :: (sortI (T.nodes.map Prod.fst)).flatMap (dumpAt T)

namespace Eng

/-- all nodes' blocks -/
inductive NodesI (D : List HA) (adr : Int → Nat) : List (Int × NodeS) → List HA → Prop where
  | nil : NodesI D adr [] []
  | cons {x L G Gs} : NodeI D (adr x.1) x.2 G → NodesI D adr L Gs → NodesI D adr (x :: L) (G ++ Gs)

theorem nodes_deep {D : List HA} {adr : Int → Nat} : ∀ (L : List (Int × NodeS)) {H : List HA} (w : Hp), seps (L.map (NodeP D adr) ++ H) w → ∃ Gs, NodesI D adr L Gs ∧ seps (Gs ++ H) w := by
  intro L
  induction L with
  | nil => intro H w q; exact ⟨[], .nil, q⟩
  | cons x L ih =>
    intro H w ⟨a, b, sp, ⟨G, hG, qG⟩, q⟩
    obtain ⟨Gs, hGs, q2⟩ := ih b q
    exact ⟨G ++ Gs, .cons hG hGs, by rw [List.append_assoc]; exact seps_append.2 ⟨a, b, sp, qG, q2⟩⟩
theorem NodesI.flat {D : List HA} {adr : Int → Nat} {L : List (Int × NodeS)} {Gs : List HA} (h : NodesI D adr L Gs) : ∀ {H : List HA} (w : Hp), seps (Gs ++ H) w → seps (L.map (NodeP D adr) ++ H) w := by
  induction h with
  | nil => intro H w q; exact q
  | cons hG _ ih =>
    intro H w q
    rw [List.append_assoc] at q
    obtain ⟨a, b, sp, qG, q2⟩ := seps_append.1 q
    exact ⟨a, b, sp, ⟨_, hG, qG⟩, ih b q2⟩
theorem NodesI.get {D : List HA} {adr : Int → Nat} {L : List (Int × NodeS)} {Gs : List HA} (h : NodesI D adr L Gs) {i : Int} {n : NodeS} (hi : (i, n) ∈ L) : ∃ G, NodeI D (adr i) n G ∧ ∀ x ∈ G, x ∈ Gs := by
  induction h with
  | nil => cases hi
  | cons hG _ ih =>
    cases hi with
    | head => exact ⟨_, hG, fun x hx => List.mem_append_left _ hx⟩
    | tail _ hi =>
      obtain ⟨G, h1, h2⟩ := ih hi
      exact ⟨G, h1, fun x hx => List.mem_append_right _ (h2 x hx)⟩

/-- all of a tree's blocks -/
def TreeD (D : List HA) (t : Nat) (T : TreeS) (adr : Int → Nat) (G : List HA) : Prop := ∃ (m : Nat) (es : List MapEntry) (ck : Nat) (Gs : List HA), MapR encI es ck (T.nodes.map (encN adr)) ∧ NodesI D adr T.nodes Gs ∧
  G = treeC t m T :: .pt m (.map (List.toArray es) ck) :: Gs

theorem tree_deep {D : List HA} {t : Nat} {T : TreeS} {adr : Int → Nat} {H : List HA} : ∀ w, seps (TreeA D t T adr :: H) w → seps (grp (TreeD D t T adr) :: H) w := by
  rintro w ⟨x, y, sp, ⟨G, ⟨m, es, ck, h1, rfl⟩, q⟩, qr⟩
  have q2 : seps ([treeC t m T, .pt m (.map (List.toArray es) ck)] ++ (T.nodes.map (NodeP D adr) ++ [])) x := by simpa using q
  obtain ⟨a, b, sp2, qa, qb⟩ := seps_append.1 q2
  obtain ⟨Gs, hGs, qg⟩ := nodes_deep T.nodes b qb
  refine ⟨x, y, sp, ⟨_, ⟨m, es, ck, Gs, h1, hGs, rfl⟩, ?_⟩, qr⟩
  have := seps_append.2 ⟨a, b, sp2, qa, qg⟩
  simpa using this
theorem tree_flat {D : List HA} {t : Nat} {T : TreeS} {adr : Int → Nat} {G H : List HA} (hG : TreeD D t T adr G) : ∀ w, seps (G ++ H) w → seps (TreeA D t T adr :: H) w := by
  obtain ⟨m, es, ck, Gs, h1, h2, rfl⟩ := hG
  intro w q
  obtain ⟨a, b, sp, qa, qb⟩ := seps_append.1 q
  refine ⟨a, b, sp, ⟨_, ⟨m, es, ck, h1, rfl⟩, ?_⟩, qb⟩
  refine seps_cons (fun h q => seps_cons (fun h q => ?_) q) qa
  have := h2.flat (H := []) h (by simpa using q)
  simpa using this
end Eng
end Go.Proofs.YtnfomoeicgdkkaaGreatDoor

/- A tree's dump: the walk. -/
set_option linter.unusedSimpArgs false
set_option linter.unusedVariables false
set_option maxRecDepth 1000000
namespace Go.Proofs.YtnfomoeicgdkkaaGreatDoor

theorem kid_nat {T : TreeS} (inv : T.Inv) {N : Nat} (few : T.Few N) {i : Int} {n : NodeS} (hi : aget T.nodes i = some n) (s : Bytes) : ∃ k : Nat, kidOf n s = (k : Int) ∧ k ≤ 1000000000 := by
  unfold kidOf
  cases h : aget n.kids s with
  | none => exact ⟨0, rfl, by omega⟩
  | some k =>
    obtain ⟨n', hn'⟩ := inv.kids i n s k hi h
    have h1 := inv.fresh k n' hn'
    have h2 := few.next
    have h3 := few.great
    exact ⟨k.toNat, by simp; omega, by omega⟩

theorem kidsD_take {n : NodeS} {j : Nat} {s : Bytes} {l : List Bytes} (h : l[j]? = some s) : (l.take (j + 1)).flatMap (fun s => [raw s, le4 (kidOf n s).toNat]) = (l.take j).flatMap (fun s => [raw s, le4 (kidOf n s).toNat]) ++ [raw s, le4 (kidOf n s).toNat] := by
  rw [List.take_add_one, h]
  simp [List.flatMap_append]

theorem kidsD_len (n : NodeS) : ∀ l : List Bytes, (l.flatMap fun s => [raw s, le4 (kidOf n s).toNat]).length = 2 * l.length := by
  intro l
  induction l with
  | nil => rfl
  | cons s l ih => rw [List.flatMap_cons, List.length_append, ih]; simp; omega

theorem kidsD_size {n : NodeS} : ∀ l : List Bytes, (∀ s ∈ l, s.length ≤ 12) → (l.flatMap fun s => [raw s, le4 (kidOf n s).toNat]).flatten.length ≤ 20 * l.length := by
  intro l
  induction l with
  | nil => intro _; simp
  | cons s l ih =>
    intro h
    have h1 := h s (.head _)
    have h2 := ih fun x hx => h x (.tail _ hx)
    rw [List.flatMap_cons, List.flatten_append, List.length_append]
    have h3 : ([raw s, le4 (kidOf n s).toNat] : List Bytes).flatten.length = 8 + s.length := by simp [raw, le4_len]; omega
    rw [h3, List.length_cons]
    omega

theorem sortB_mem {l : List Bytes} {s : Bytes} (h : s ∈ sortB l) : s ∈ l := (List.mergeSort_perm l _).mem_iff.1 h
theorem sortB_len (l : List Bytes) : (sortB l).length = l.length := (List.mergeSort_perm l _).length_eq
theorem sortI_mem {l : List Int} {s : Int} (h : s ∈ sortI l) : s ∈ l := (List.mergeSort_perm l _).mem_iff.1 h
theorem sortI_len (l : List Int) : (sortI l).length = l.length := (List.mergeSort_perm l _).length_eq

theorem rowParts_len {i : Int} {n : NodeS} : (rowParts i n).length ≤ 4 + 2 * n.kids.length := by
  unfold rowParts
  rw [List.length_append]
  split
  · have h3 : (kidsD n).length = 2 * n.kids.length := by
      unfold kidsD
      rw [kidsD_len, sortB_len, List.length_map]
    simp only [List.length_cons, List.length_nil]
    omega
  · simp only [List.length_cons, List.length_nil]
    omega

theorem rowParts_size {i : Int} {n : NodeS} {N : Nat} (hn : NeatN n N) (hd : n.data.length ≤ 3500) : (dumpRow i n).length ≤ 3520 + 20 * n.kids.length := by
  unfold dumpRow rowParts
  rw [List.flatten_append, List.length_append]
  have h1 : ([le4 i.toNat, le4 n.links.toNat, raw n.data] : List Bytes).flatten.length = 12 + n.data.length := by simp [raw, le4_len]; omega
  rw [h1]
  split
  · have h2 := kidsD_size (n := n) (sortB (n.kids.map Prod.fst)) fun s hs => by
      obtain ⟨x, hx, rfl⟩ := List.mem_map.1 (sortB_mem hs)
      exact hn.2 x hx
    rw [sortB_len, List.length_map] at h2
    rw [List.flatten_cons, List.length_append]
    unfold kidsD
    rw [le4_len]
    omega
  · simp
    omega

theorem dumpAt_len (T : TreeS) (i : Int) : (dumpAt T i).length ≤ 1 := by
  unfold dumpAt
  cases aget T.nodes i with
  | none => simp
  | some n => dsimp only; split <;> simp
theorem dump_len (T : TreeS) : ∀ l : List Int, (l.flatMap (dumpAt T)).length ≤ l.length := by
  intro l
  induction l with
  | nil => simp
  | cons i l ih =>
    have := dumpAt_len T i
    rw [List.flatMap_cons, List.length_append, List.length_cons]
    omega

namespace Eng
attribute [local irreducible] Ops Segs Run Spec

theorem rows_two {vs : List Value} {bss : List Bytes} {v1 v2 : Value} {b1 b2 : Bytes} {H : List HA} : ∀ h, seps (RowsP vs bss :: RowP v1 b1 :: RowP v2 b2 :: H) h → seps (RowsP (vs ++ [v1, v2]) (bss ++ [b1, b2]) :: H) h := by
  intro h q
  have := rows_snocR h (rows_snocR h q)
  simpa [List.append_assoc] using this

set_option maxHeartbeats 4000000 in
theorem tree_Dump (D : List HA) (t : Nat) (T : TreeS) (adr : Int → Nat) (N : Nat) (inv : T.Inv) (few : T.Few N) (neat : T.Neat N) (hN : N ≤ 1000000) (Gt : List HA) (hG : TreeD D t T adr Gt) (F : Hp) (kt : Known Gt F) (kd : Known D F) :
    Spec Tryz.prog 160 [ptr t].toArray F [] fun v H => ∃ a c vs, v = .slice a (dumpT T).length c ∧ vs.length = (dumpT T).length ∧ H = [OwnS a (dumpT T).length c 1 22 vs, RowsP vs (dumpT T)] := by
  obtain ⟨m, es, ck, Gs, h1, h2, rfl⟩ := hG
  have hFt := kt _ _ m0
  have hFm := kt _ _ m1
  have kn := kt.tail.tail
  clear kt
  have hgreat := few.great
  have hlen := few.len
  have ok := inv.ok few
  obtain ⟨nx, hnx⟩ := Int.eq_ofNat_of_zero_le few.next.1
  have hnx2 : nx ≤ N := by have := few.next.2; omega
  refine Spec.enterC (n := 92) Tryz.func160 rfl (by simp) (by kernel_rfl) fun ec hc => ?_
  cbv at hc
  injection hc with hc
  subst hc
  simp only [argFr, Nat.reduceAdd]
  refine go ?_
  refine Ops.ldF rfl hFt rfl ?_
  rw [hnx]
  refine Ops.call1 rfl .nil (fun F' _ _ => rec_Num nx (by omega) F') ?_
  rintro v G ⟨b1, rfl, rfl⟩
  simp only [List.cons_append, List.nil_append]
  refine Ops.lit [.slice (some ⟨b1, 0, none⟩) 4 4] rfl rfl fun b2 => ?_
  refine Ops.call1 rfl .nil (fun F' e k => rec_Pack _ [le4 nx] F' (rdBB_mk0 (k _ _ m0) (.cons (rdB_of (bs := le4 nx) (o := 0) (k _ _ m1) (by simp [bvs_len]) rfl) .nil) rfl) (by simp) (by simp [le4_len])) ?_
  rintro v G ⟨a1, c1, rfl, rfl⟩
  rw [show ([le4 nx] : List Bytes).flatten = le4 nx by simp]
  simp only [List.cons_append, List.nil_append]
  refine Ops.lit [.slice a1 (le4 nx).length c1] rfl rfl fun b3 => ?_
  refine go1 ?_
  refine Ops.nil (Segs.nil ?_)
  refine Run.conseq (H' := [OwnS (some ⟨b3, 0, none⟩) 1 1 1 22 [.slice a1 (le4 nx).length c1], RowsP ([] ++ [.slice a1 (le4 nx).length c1]) ([] ++ [le4 nx])]) (fun h q => ?_) ?_
  · refine own_of_pt (n := 1) (s := 1) rfl h ?_
    refine seps_cons (fun h q => ?_) q
    exact take_sub (.cons s0 .nil) h (rows_snoc h (rows_none h q))
  refine go ?_
  refine Ops.ldF rfl hFt rfl ?_
  refine Ops.call1 rfl .nil (fun F' _ _ => keys_node (some m) F') ?_
  rintro v G ⟨b4, rfl, rfl⟩
  simp only [List.cons_append, List.nil_append]
  refine Ops.call1 rfl .nil (fun F' e k => sorted_node m b4 es ck _ h1 (by simp; omega) (fun x hx => ?_) F' (k _ _ m0) (e _ _ hFm)) ?_
  · obtain ⟨y, hy, rfl⟩ := List.mem_map.1 hx
    have h3 := inv.fresh y.1 y.2 (mem_aget inv.keys hy)
    have h4 := few.next
    show -9223372036854775808 ≤ y.1 ∧ y.1 < 9223372036854775808
    omega
  rintro v G ⟨a5, c5, rfl, rfl⟩
  rw [enc_fst, show (T.nodes.map (encN adr)).length = (sortI (T.nodes.map Prod.fst)).length by rw [sortI_len]; simp]
  have hids : ∀ i ∈ sortI (T.nodes.map Prod.fst), ∃ n, aget T.nodes i = some n := by
    intro i hi
    obtain ⟨y, hy, rfl⟩ := List.mem_map.1 (sortI_mem hi)
    exact ⟨y.2, mem_aget inv.keys hy⟩
  have hidl : (sortI (T.nodes.map Prod.fst)).length ≤ N := by rw [sortI_len, List.length_map]; exact hlen
  have hdump : dumpT T = le4 nx :: (sortI (T.nodes.map Prod.fst)).flatMap (dumpAt T) := by unfold dumpT; rw [hnx, Int.toNat_natCast]
  rw [hdump]
  generalize sortI (T.nodes.map Prod.fst) = ids at *
  clear hdump
  simp only [List.cons_append, List.nil_append]
  refine go1 ?_
  refine Ops.nil (Segs.nil ?_)
  refine Run.open_ s0 fun G1 hG1 => ?_
  refine Run.lendD G1 (take_app G1 _) fun F1 x1 k1 => ?_
  obtain ⟨oi, ci, hei, hids2⟩ := (hG1.rdE k1).2
  cases hei
  have hFt1 := x1 _ _ hFt
  have hFm1 := x1 _ _ hFm
  have kn1 : Known Gs F1 := fun b o mm => x1 _ _ (kn b o mm)
  have kd1 : Known D F1 := fun b o mm => x1 _ _ (kd b o mm)
  clear hG1 k1
  refine go ?_
  refine Run.loopI (ι := Nat × Option Addr × Nat × List Value) (fun x => ids.length - x.1) (fun x => x.1 ≤ ids.length ∧ x.2.2.2.length = (le4 nx :: (ids.take x.1).flatMap (dumpAt T)).length)
    (fun x => [(25, .int .i64 x.1), (24, .int .i64 ids.length), (23, .slice a5 ids.length c5), (3, .slice x.2.1 (le4 nx :: (ids.take x.1).flatMap (dumpAt T)).length x.2.2.1), (0, ptr t)])
    (fun x => [OwnS x.2.1 (le4 nx :: (ids.take x.1).flatMap (dumpAt T)).length x.2.2.1 1 22 x.2.2.2, RowsP x.2.2.2 (le4 nx :: (ids.take x.1).flatMap (dumpAt T))])
    (0, some ⟨b3, 0, none⟩, 1, [.slice a1 (le4 nx).length c1]) ⟨Nat.zero_le _, rfl⟩ (.cons rfl (.cons rfl (.cons rfl (.cons rfl (.cons rfl .nil))))) (fun h q => take_sub (.cons s1 (.cons s1 .nil)) h q) ?_
  rintro ⟨j, ra, rc, rvs⟩ ⟨hj, hrv⟩ ih
  have ihn := ih
  clear ih
  dsimp only at hj hrv ihn ⊢
  have hrl : (le4 nx :: (ids.take j).flatMap (dumpAt T)).length ≤ 1000001 := by
    have h3 := dump_len T (ids.take j)
    have h4 : (ids.take j).length ≤ ids.length := by rw [List.length_take]; omega
    rw [List.length_cons]
    omega
  refine go ?_
  refine Run.condD rfl (fun hlt => ?_) (fun hge => ?_)
  rotate_left
  · have hje : j = ids.length := by omega
    subst hje
    rw [List.take_length] at *
    refine Run.exit rfl ?_
    refine go ?_
    exact Run.ret1 Tryz.func160 rfl rfl (fun h q => q) ⟨ra, rc, rvs, rfl, hrv, rfl⟩
  have hlt' : j < ids.length := by omega
  have hel : ids[j]? = some ids[j] := List.getElem?_eq_getElem hlt'
  have htk : ids.take (j + 1) = ids.take j ++ [ids[j]] := List.take_succ_eq_append_getElem hlt'
  obtain ⟨n, hi⟩ := hids _ (List.getElem_mem hlt')
  rcases hids2 with hids2 | ⟨bi, oi, Li, Ti, fzi, hei, hFi, hri⟩
  · rw [hids2] at hlt'; simp at hlt'
  cases hei
  have hcell := hri j _ hel
  have hnext := fun a c vs => ihn (j + 1, a, c, vs)
  dsimp only at hnext
  have hrow1 : (le4 nx :: (ids.take (j + 1)).flatMap (dumpAt T)) = (le4 nx :: (ids.take j).flatMap (dumpAt T)) ++ dumpAt T ids[j] := by
    rw [htk, List.flatMap_append]
    simp
  rw [hrow1] at hnext
  clear ihn hrow1 htk hri
  generalize (le4 nx :: (ids.take j).flatMap (dumpAt T)) = rows at *
  generalize ids[j] = i at *
  obtain ⟨Gn, hN, hsub⟩ := h2.get (aget_mem hi)
  obtain ⟨x, km, ks, hx, hks, rfl⟩ := hN.kids
  have hFn : F1 (adr i) = some (.cells [.bool n.dir, .int .i64 n.links, x, .map km].toArray 172 (0, 0)) := kn1 _ _ (hsub _ m0)
  have hksF : Known ks F1 := fun b o mm => kn1 _ _ (hsub _ (.tail _ mm))
  obtain ⟨xa, xc, rfl⟩ := hx.1
  have hxr := hx.2 F1 kd1
  obtain ⟨fr, hfr, hg, _, _⟩ := h1.find same_i i
  rw [aget_enc, hi] at hg
  obtain ⟨⟨fj, fu⟩, rfl, hfu⟩ := Option.map_eq_some_iff.1 hg
  dsimp only at hfu
  subst hfu
  have hneat := neat i n hi
  have hdata := inv.data i n hi
  obtain ⟨ii, hii⟩ := Int.eq_ofNat_of_zero_le (show 0 ≤ i by have := inv.fresh i n hi; omega)
  have hii2 : ii ≤ N := by have h3 := inv.fresh i n hi; have h4 := few.next; omega
  subst hii
  have hlinks : ∃ ln : Nat, n.links = (ln : Int) ∧ ln ≤ N := by
    have h3 := few.one
    have h4 := few.refs ii
    cases hd : n.dir with
    | true => exact ⟨1, (inv.dirs ii n hi hd).1, h3⟩
    | false => exact ⟨T.refs ii, (inv.files ii n hi hd).2, h4⟩
  obtain ⟨ln, hln, hln2⟩ := hlinks
  have hrp := rowParts_len (i := (ii : Int)) (n := n)
  have hrs := rowParts_size (i := (ii : Int)) hneat hdata
  have hkl := hneat.1
  refine go ?_
  refine Ops.ixS rfl rfl ⟨by omega, by omega⟩ ?_
  refine Ops.ldF rfl hFi (by rw [Int.toNat_natCast, Nat.mul_one]; exact hcell) ?_
  refine go ?_
  refine Ops.ldF rfl hFt1 rfl ?_
  refine go ?_
  refine Ops.lkpF rfl rfl hFm1 hfr ?_
  refine go ?_
  refine Ops.ldF rfl hFn rfl ?_
  refine go ?_
  refine Run.condD (p := n.links = 0) rfl (fun h0 => ?_) (fun h0 => ?_)
  · have hda : dumpAt T ii = [] := by unfold dumpAt; rw [hi]; dsimp only; rw [if_pos h0]
    rw [hda, List.append_nil] at hnext
    refine Run.exit rfl ?_
    refine go ?_
    exact Run.lp (Run.again (hnext ra rc rvs (by omega) ⟨by omega, hrv⟩) (.cons rfl (.cons rfl (.cons rfl (.cons rfl (.cons rfl .nil))))) (fun h q => q))
  have hda : dumpAt T ii = [dumpRow ii n] := by unfold dumpAt; rw [hi]; dsimp only; rw [if_neg h0]
  rw [hda] at hnext
  refine go ?_
  refine Segs.lend [] .nil fun F2 x2 k2 => ?_
  refine go1 ?_
  refine Ops.ldF rfl (x2 _ _ hFn) rfl ?_
  refine Ops.ldF rfl (x2 _ _ hFn) rfl ?_
  rw [hln]
  refine Ops.call1 rfl .nil (fun F' e kn => (rec_Num_row ii (by omega) F').rowOut) ?_
  rintro v1 G ⟨a6, c6, rfl, rfl⟩
  refine Ops.call1 rfl .nil (fun F' e kn => (rec_Num_row ln (by omega) F').rowOut) ?_
  rintro v1 G ⟨a7, c7, rfl, rfl⟩
  refine go1 ?_
  refine Ops.nil (Segs.oneS rfl ?_)
  simp only [List.cons_append, List.nil_append]
  refine Ops.call1 rfl .nil (fun F' e kn => (rec_Raw _ n.data F' (hxr.ext e) (by omega)).rowOut) ?_
  rintro v1 G ⟨a8, c8, rfl, rfl⟩
  simp only [List.cons_append, List.nil_append]
  refine go ?_
  refine Ops.lit [.slice a6 (le4 ii).length c6, .slice a7 (le4 ln).length c7, .slice a8 (raw n.data).length c8] rfl rfl fun b9 => ?_
  refine go1 ?_
  refine Ops.nil (Segs.oneS rfl ?_)
  refine go1 ?_
  refine Ops.nil (Segs.nil ?_)
  have e1 : ([le4 (ii : Int).toNat, le4 n.links.toNat, raw n.data] : List Bytes) = [le4 ii, le4 ln, raw n.data] := by rw [hln]; simp
  refine Run.conseq (H' := [OwnS (some ⟨b9, 0, none⟩) 3 3 1 257 [.slice a6 (le4 ii).length c6, .slice a7 (le4 ln).length c7, .slice a8 (raw n.data).length c8], RowsP [.slice a6 (le4 ii).length c6, .slice a7 (le4 ln).length c7, .slice a8 (raw n.data).length c8] [le4 ii, le4 ln, raw n.data],
      OwnS ra rows.length rc 1 22 rvs, RowsP rvs rows]) (fun h q => ?_) ?_
  · refine own_of_pt (n := 3) (s := 1) rfl h (seps_cons (fun h q => ?_) q)
    have q1 := take_sub (.cons s2 (.cons s1 (.cons s0 (.cons s0 (.cons s0 .nil))))) h q
    have q2 := rows_snocR h (rows_snocR h (rows_snocR h (rows_none h q1)))
    simpa using q2
  refine Run.seq ?_
  refine Run.meet (ι := Option Addr × Nat × List Value) (fun x => x.2.2.length = (rowParts ii n).length)
    (fun x => [(7, .slice x.1 (rowParts ii n).length x.2.1), (25, .int .i64 j), (24, .int .i64 ids.length), (23, .slice (some ⟨bi, oi, none⟩) ids.length c5), (3, .slice ra rows.length rc), (0, ptr t)])
    (fun x => [OwnS x.1 (rowParts ii n).length x.2.1 1 257 x.2.2, RowsP x.2.2 (rowParts ii n), OwnS ra rows.length rc 1 22 rvs, RowsP rvs rows]) ?_ ?_
  · rintro ⟨pa, pc, pvs⟩ hpv
    dsimp only at hpv ⊢
    refine Run.open_ s0 fun G1 hp1 => ?_
    refine Run.conseq (H' := RowsP pvs (rowParts ii n) :: (G1 ++ [OwnS ra rows.length rc 1 22 rvs, RowsP rvs rows])) (fun h q => seps_mid (A := G1) (B := [_]) h q) ?_
    refine Run.open_ s0 fun G2 hp2 => ?_
    refine go ?_
    refine Ops.callE1 [] (G2 ++ (G1 ++ [OwnS ra rows.length rc 1 22 rvs, RowsP rvs rows])) rfl (fun h q => q) (fun F' e kn => rec_Pack _ (rowParts ii n) F' (hp1.rdBB kn.right.left (hp2.rds kn.left)) (by omega) (by
      show (dumpRow ii n).length ≤ _
      omega)) ?_
    rintro v G ⟨a9, c9, rfl, rfl⟩
    have e9 : (rowParts ii n).flatten = dumpRow ii n := rfl
    rw [e9]
    refine Ops.lit [.slice a9 (dumpRow ii n).length c9] rfl rfl fun b10 => ?_
    refine go1 ?_
    refine Ops.conseq (H' := .pt b10 (.cells [.slice a9 (dumpRow ii n).length c9].toArray 22 (0, 0)) :: OwnS ra rows.length rc 1 22 rvs :: OwnS a9 (dumpRow ii n).length c9 1 5 (bvs (dumpRow ii n)) :: RowsP rvs rows :: (G2 ++ G1)) (fun h q => seps_cons (fun h q => ?_) q) (closed_segs closed_run) ?_
    · have q1 : seps ([OwnS a9 (dumpRow ii n).length c9 1 5 (bvs (dumpRow ii n))] ++ ((G2 ++ G1) ++ [OwnS ra rows.length rc 1 22 rvs, RowsP rvs rows])) h := by simpa using q
      have q2 := seps_cons (fun h q => seps_comm (A := G2 ++ G1) (B := [OwnS ra rows.length rc 1 22 rvs, RowsP rvs rows]) h q) q1
      exact seps_swap q2
    refine Ops.app (m := 1) (ys := [.slice a9 (dumpRow ii n).length c9]) rfl rfl rfl s1 (shows_pt m0 (Nat.le_refl 1) rfl) (fun v hv => by rw [List.mem_singleton] at hv; subst hv; rfl) rfl (by decide) (by omega) fun a11 c11 => ?_
    refine go ?_
    refine Run.lp (Run.again (hnext a11 c11 (rvs ++ [.slice a9 (dumpRow ii n).length c9]) (by omega) ⟨by omega, by simp [hrv]⟩) (.cons rfl (.cons rfl (.cons rfl (.cons ?_ (.cons (by rfl) .nil))))) (fun h q => ?_))
    · rw [List.length_append]; rfl
    · rw [List.length_append]
      refine seps_cons (fun h q => ?_) q
      exact rows_snoc h (take_sub (.cons s2 (.cons s1 .nil)) h q)
  · intro htail
    refine go ?_
    refine Ops.ldF rfl hFn rfl ?_
    refine go ?_
    cases hd : n.dir with
    | false =>
      have hrw : rowParts ii n = [le4 ii, le4 ln, raw n.data] := by unfold rowParts; rw [e1, if_neg (by rw [hd]; simp), List.append_nil]
      rw [hrw] at htail
      refine Run.condF (by simp [get, look, hd]) ?_
      refine Run.skip ?_
      exact Run.again (htail (some ⟨b9, 0, none⟩, 3, [.slice a6 (le4 ii).length c6, .slice a7 (le4 ln).length c7, .slice a8 (raw n.data).length c8]) rfl) (.cons rfl (.cons rfl (.cons rfl (.cons rfl (.cons rfl (.cons rfl .nil)))))) (fun h q => take_sub (.cons s0 (.cons s0 (.cons s0 (.cons s0 .nil)))) h q)
    | true =>
      have hrw : rowParts ii n = [le4 ii, le4 ln, raw n.data, le4 1] ++ kidsD n := by unfold rowParts; rw [e1, if_pos hd]; rfl
      obtain ⟨r, es2, ck2, rfl, hr, rfl⟩ := hks.dir hd
      have hFr := hksF _ _ m0
      refine Run.condT (by simp [get, look, hd]) ?_
      refine go ?_
      refine Ops.call1 rfl .nil (fun F' e kn => (rec_Num_row 1 (by omega) F').rowOut) ?_
      rintro v1 G ⟨a9, c9, rfl, rfl⟩
      simp only [List.cons_append, List.nil_append]
      refine Ops.lit [.slice a9 (le4 1).length c9] rfl rfl fun b10 => ?_
      refine Ops.app (m := 1) (ys := [.slice a9 (le4 1).length c9]) rfl rfl rfl s2 (shows_pt m0 (Nat.le_refl 1) rfl) (fun v hv => by rw [List.mem_singleton] at hv; subst hv; rfl) rfl (by decide) (by omega) fun a11 c11 => ?_
      refine go1 ?_
      refine Ops.nil (Segs.nil ?_)
      refine Run.conseq (H' := [OwnS a11 4 c11 1 257 [.slice a6 (le4 ii).length c6, .slice a7 (le4 ln).length c7, .slice a8 (raw n.data).length c8, .slice a9 (le4 1).length c9],
        RowsP [.slice a6 (le4 ii).length c6, .slice a7 (le4 ln).length c7, .slice a8 (raw n.data).length c8, .slice a9 (le4 1).length c9] [le4 ii, le4 ln, raw n.data, le4 1], OwnS ra rows.length rc 1 22 rvs, RowsP rvs rows])
        (fun h q => seps_cons (fun h q => rows_snocR (vs := [.slice a6 (le4 ii).length c6, .slice a7 (le4 ln).length c7, .slice a8 (raw n.data).length c8]) (bss := [le4 ii, le4 ln, raw n.data]) h (take_sub (.cons s2 (.cons s1 (.cons s1 (.cons s1 .nil)))) h q)) q) ?_
      refine go ?_
      refine Ops.ldF rfl hFn rfl ?_
      refine Ops.call1 rfl .nil (fun F' _ _ => keys_kid (some r) F') ?_
      rintro v G ⟨b12, rfl, rfl⟩
      simp only [List.cons_append, List.nil_append]
      have hkl2 : ∀ s ∈ sortB (n.kids.map Prod.fst), s.length ≤ 12 := fun s hs => by
        obtain ⟨x, hx, rfl⟩ := List.mem_map.1 (sortB_mem hs)
        exact hneat.2 x hx
      refine Ops.call1 rfl .nil (fun F' e k => sorted_kid r b12 es2 ck2 _ hr (by rw [List.length_map]; omega) (fun x hx => ?_) F' (k _ _ m0) (e _ _ hFr)) ?_
      · obtain ⟨y, hy, rfl⟩ := List.mem_map.1 hx
        have := hneat.2 y hy
        show y.1.length ≤ _
        omega
      rintro v G ⟨a13, c13, rfl, rfl⟩
      have hmm : (n.kids.map encV).map Prod.fst = n.kids.map Prod.fst := by rw [List.map_map]; rfl
      have hss : (sortB (n.kids.map Prod.fst)).length = n.kids.length := by rw [sortB_len, List.length_map]
      rw [hmm, show (n.kids.map encV).length = (sortB (n.kids.map Prod.fst)).length by rw [hss, List.length_map]]
      have hkd : kidsD n = (sortB (n.kids.map Prod.fst)).flatMap fun s => [raw s, le4 (kidOf n s).toNat] := rfl
      rw [hkd] at hrw
      rw [hrw] at htail
      clear hkd hmm
      generalize sortB (n.kids.map Prod.fst) = names at *
      simp only [List.cons_append, List.nil_append]
      refine go1 ?_
      refine Ops.nil (Segs.nil ?_)
      refine Run.open_ s0 fun G1 hG1 => ?_
      refine Run.conseq (H' := [.pt b12 (.cells [.map (some r)].toArray 73 (0, 0)), OwnS a11 4 c11 1 257 [.slice a6 (le4 ii).length c6, .slice a7 (le4 ln).length c7, .slice a8 (raw n.data).length c8, .slice a9 (le4 1).length c9],
        RowsP [.slice a6 (le4 ii).length c6, .slice a7 (le4 ln).length c7, .slice a8 (raw n.data).length c8, .slice a9 (le4 1).length c9] [le4 ii, le4 ln, raw n.data, le4 1], OwnS ra rows.length rc 1 22 rvs, RowsP rvs rows] ++ G1) (fun h q => seps_comm h q) ?_
      simp only [List.cons_append, List.nil_append]
      have hpl : ([le4 ii, le4 ln, raw n.data, le4 1] ++ names.flatMap fun s => [raw s, le4 (kidOf n s).toNat]).length = 4 + 2 * names.length := by rw [List.length_append, kidsD_len]; rfl
      rw [hpl] at htail
      refine go ?_
      refine Run.loopI (ι := Nat × Option Addr × Nat × List Value) (fun x => names.length - x.1) (fun x => x.1 ≤ names.length ∧ x.2.2.2.length = 4 + 2 * x.1)
        (fun x => [(68, .int .i64 x.1), (67, .int .i64 names.length), (66, .slice a13 names.length c13), (7, .slice x.2.1 (4 + 2 * x.1) x.2.2.1), (6, ptr (adr ii)), (25, .int .i64 j), (24, .int .i64 ids.length), (23, .slice (some ⟨bi, oi, none⟩) ids.length c5), (3, .slice ra rows.length rc), (0, ptr t)])
        (fun x => OwnS x.2.1 (4 + 2 * x.1) x.2.2.1 1 257 x.2.2.2 :: RowsP x.2.2.2 ([le4 ii, le4 ln, raw n.data, le4 1] ++ (names.take x.1).flatMap fun s => [raw s, le4 (kidOf n s).toNat]) :: OwnS ra rows.length rc 1 22 rvs :: RowsP rvs rows :: G1)
        (0, a11, c11, [.slice a6 (le4 ii).length c6, .slice a7 (le4 ln).length c7, .slice a8 (raw n.data).length c8, .slice a9 (le4 1).length c9]) ⟨Nat.zero_le _, rfl⟩
        (.cons rfl (.cons rfl (.cons rfl (.cons rfl (.cons rfl (.cons rfl (.cons rfl (.cons rfl (.cons rfl (.cons rfl .nil)))))))))) (fun h q => seps_tail q) ?_
      rintro ⟨q, pa, pc, pvs⟩ ⟨hq, hpv⟩ ih
      have ihn := ih
      clear ih
      dsimp only at hq hpv ihn ⊢
      refine go ?_
      refine Run.condD rfl (fun hlt2 => ?_) (fun hge2 => ?_)
      · have hlt2' : q < names.length := by omega
        have hel2 : names[q]? = some names[q] := List.getElem?_eq_getElem hlt2'
        have hsl := hkl2 _ (List.getElem_mem hlt2')
        have htk2 := kidsD_take (n := n) hel2
        obtain ⟨hnl, ⟨_, hz, _⟩ | ⟨bn, sp, rfl, hnc, hncap, rfl⟩⟩ := hG1
        · omega
        have hcell2 : (names.map sv ++ sp)[q]? = some (sv names[q]) := by
          rw [List.getElem?_append_left (by simpa using hlt2'), List.getElem?_map, hel2]; rfl
        have hnext2 := fun a c vs => ihn (q + 1, a, c, vs)
        dsimp only at hnext2
        rw [htk2] at hnext2
        clear ihn htk2 hnl hncap
        generalize names.map sv ++ sp = Ln at *
        generalize names[q] = s at *
        generalize (names.take q).flatMap (fun s => [raw s, le4 (kidOf n s).toNat]) = pre at *
        obtain ⟨fr2, hf2, hg2, _, _⟩ := hr.find same_s s
        obtain ⟨kk, hkk, hkk2⟩ := kid_nat inv few hi s
        refine go ?_
        refine Ops.ixS rfl rfl ⟨by omega, by omega⟩ ?_
        refine Ops.ld rfl m4 (by rw [Int.toNat_natCast, Nat.mul_one, Nat.zero_add]; exact hcell2) ?_
        refine go ?_
        refine Segs.lend [] .nil fun F4 x4 k4 => ?_
        refine go1 ?_
        refine Ops.ldF rfl (x4 _ _ hFn) rfl ?_
        refine go1 ?_
        refine Ops.lkpF rfl rfl (x4 _ _ hFr) hf2 ?_
        rw [kid_found hg2, hkk]
        refine Ops.call1 rfl .nil (fun F' e kn => (rec_Text s F' (by omega)).rowOut) ?_
        rintro v1 G ⟨a14, c14, rfl, rfl⟩
        refine go1 ?_
        refine Ops.nil (Segs.oneS rfl ?_)
        simp only [List.cons_append, List.nil_append]
        refine Ops.call1 rfl .nil (fun F' e kn => (rec_Num_row kk (by omega) F').rowOut) ?_
        rintro v1 G ⟨a15, c15, rfl, rfl⟩
        simp only [List.cons_append, List.nil_append]
        refine go ?_
        refine Ops.lit [.slice a14 (raw s).length c14, .slice a15 (le4 kk).length c15] rfl rfl fun b16 => ?_
        refine go ?_
        refine Ops.app (m := 2) (ys := [.slice a14 (raw s).length c14, .slice a15 (le4 kk).length c15]) rfl rfl rfl s3 (shows_pt m0 (Nat.le_refl 2) rfl) (fun v hv => by simp at hv; rcases hv with rfl | rfl <;> rfl) rfl (by decide) (by omega) fun a17 c17 => ?_
        refine go ?_
        refine Run.lp (Run.again (hnext2 a17 c17 (pvs ++ [.slice a14 (raw s).length c14, .slice a15 (le4 kk).length c15]) (by omega) ⟨by omega, by simp [hpv]; omega⟩) (.cons rfl (.cons rfl (.cons rfl (.cons (by rw [show 4 + 2 * (q + 1) = 4 + 2 * q + 2 by omega]; rfl) (.cons (by rfl) (.cons (by rfl) (.cons (by rfl) (.cons (by rfl) (.cons (by rfl) (.cons (by rfl) .nil)))))))))) (fun hh qq => ?_))
        rw [show 4 + 2 * (q + 1) = 4 + 2 * q + 2 by omega, hkk, Int.toNat_natCast, ← List.append_assoc]
        exact seps_cons (fun h q => rows_two h (take_sub (.cons s3 (.cons s2 (.cons s1 (.cons s1 (.cons s1 (.cons s1 .nil)))))) h q)) qq
      · have hqe : q = names.length := by omega
        subst hqe
        rw [List.take_length]
        refine Run.exit rfl ?_
        exact Run.again (htail (pa, pc, pvs) hpv) (.cons rfl (.cons rfl (.cons rfl (.cons rfl (.cons rfl (.cons rfl .nil)))))) (fun h q => take_sub (.cons s0 (.cons s0 (.cons s0 (.cons s0 .nil)))) h q)
end Eng
end Go.Proofs.YtnfomoeicgdkkaaGreatDoor

/- A volume, plainly and in memory; what is held, and let go. -/
set_option linter.unusedSimpArgs false
set_option linter.unusedVariables false
set_option maxRecDepth 1000000
namespace Go.Proofs.YtnfomoeicgdkkaaGreatDoor

structure VolS where
  T : TreeS
  L : LogS
  quota : Int
  holds : List (Int × Int)
  dead : Bool

def VolS.held (V : VolS) (i : Int) : Int := (aget V.holds i).getD 0
def VolS.sweep (V : VolS) : VolS := { V with T := reapAll V.T (V.T.loose.filter fun i => !decide (0 < V.held i)) }
/-- a file's number, the error's number -/
def VolS.hold (V : VolS) (p : Bytes) : (Int × Int) × VolS :=
  if V.T.find p = 0 then ((0, 8), V) else if V.T.isDir p = true then ((0, 10), V) else ((V.T.find p, 0), { V with holds := aput V.holds (V.T.find p) (V.held (V.T.find p) + 1) })
def VolS.lets (V : VolS) (i : Int) : Int × VolS :=
  if V.held i = 0 then (8, V) else
    (0, VolS.sweep (if V.held i - 1 = 0 then { V with holds := adel (aput V.holds i (V.held i - 1)) i } else { V with holds := aput V.holds i (V.held i - 1) }))

/-- what all volumes have whose disk has power, and is not to lose it -/
structure VolS.Ok (V : VolS) (D : DiskS) (N : Nat) : Prop where
  inv : V.T.Inv
  few : V.T.Few N
  neat : V.T.Neat N
  held : ∃ rs, Held V.L D rs
  top : V.L.top ≤ N
  dead : V.dead = false
  fate : D.fate ≤ 0
  holds : ∀ i c, aget V.holds i = some c → 0 ≤ c ∧ c ≤ N

theorem VolS.Ok.heldB {V : VolS} {D : DiskS} {N : Nat} (h : V.Ok D N) (i : Int) : 0 ≤ V.held i ∧ V.held i ≤ N := by
  unfold VolS.held
  cases e : aget V.holds i with
  | none => simp
  | some c => exact h.holds i c e

theorem VolS.Ok.sweep {V : VolS} {D : DiskS} {N : Nat} (h : V.Ok D N) : V.sweep.Ok D N := by
  have g := reapAll_grow (V.T.loose.filter fun i => !decide (0 < V.held i)) h.inv.keys
  exact ⟨reapAll_inv _ h.inv, h.few.grow g (by have := h.few.great; omega), reapAll_neat _ h.neat, h.held, h.top, h.dead, h.fate, h.holds⟩

theorem VolS.Ok.hold {V : VolS} {D : DiskS} {N : Nat} (h : V.Ok D N) (hN : N < 1000000000) (p : Bytes) : (V.hold p).2.Ok D (N + 1) := by
  have m : V.Ok D (N + 1) := ⟨h.inv, h.few.grow (Grow.refl h.inv.keys 1) (by omega), h.neat.mono (by omega), h.held, by have := h.top; omega, h.dead, h.fate, fun i c e => by have := h.holds i c e; omega⟩
  unfold VolS.hold
  split
  · exact m
  · split
    · exact m
    · refine ⟨m.inv, m.few, m.neat, m.held, m.top, m.dead, m.fate, fun i c e => ?_⟩
      have e2 : aget (aput V.holds (V.T.find p) (V.held (V.T.find p) + 1)) i = some c := e
      rw [aget_aput] at e2
      split at e2
      · cases e2
        have := h.heldB (V.T.find p)
        omega
      · have := h.holds i c e2; omega

theorem VolS.Ok.lets {V : VolS} {D : DiskS} {N : Nat} (h : V.Ok D N) (i : Int) : (V.lets i).2.Ok D N := by
  have hb := h.heldB i
  unfold VolS.lets
  split
  · exact h
  · rename_i h0
    apply VolS.Ok.sweep
    split
    · refine ⟨h.inv, h.few, h.neat, h.held, h.top, h.dead, h.fate, fun k c e => ?_⟩
      have e2 : aget (adel (aput V.holds i (V.held i - 1)) i) k = some c := e
      rw [aget_adel, aget_aput] at e2
      split at e2
      · cases e2
      · exact h.holds k c e2
    · refine ⟨h.inv, h.few, h.neat, h.held, h.top, h.dead, h.fate, fun k c e => ?_⟩
      have e2 : aget (aput V.holds i (V.held i - 1)) k = some c := e
      rw [aget_aput] at e2
      split at e2
      · cases e2; omega
      · exact h.holds k c e2

namespace Eng

/-- a group opened, lent to a call, and dropped -/
theorem Spec.withG {P : Program} {f : FuncId} {args : Array Value} {F : Hp} {I : List HA → Prop} {Pre : List HA} {R : Value → List HA → Prop} (s : ∀ G, I G → ∀ F', Ext F F' → Known G F' → Spec P f args F' Pre R) : Spec P f args F (grp I :: Pre) R := by
  unfold Spec
  rintro w h ⟨x, y, sp, ⟨G, hG, qG⟩, qr⟩ k
  have := Spec.frame (H := Pre ++ G) (take_app Pre G) (s G hG)
  unfold Spec at this
  refine (this w h (seps_append.2 ⟨y, x, sp.symm, qr, qG⟩) k).mono ?_
  rintro e w' ⟨v, H', h', he, ⟨G', r, rfl⟩, q', k', kp⟩
  obtain ⟨a, b, sp2, qa, _⟩ := seps_append.1 q'
  exact ⟨v, G', h', he, r, seps_up qa sp2.symm, k', kp⟩

abbrev encH (x : Int × Int) : Int × Value := (x.1, encI x.2)
abbrev volC (v t l : Nat) (q : Int) (r : Nat) (dead : Bool) : HA := .pt v (.cells [ptr t, ptr l, .int .i64 q, .map (some r), .bool dead].toArray 40 (0, 0))

/-- a volume in memory, beside its disk -/
def VolI (v d : Nat) (V : VolS) (G : List HA) : Prop := ∃ t l r es ck adr Dp, MapR encI es ck (V.holds.map encH) ∧ G = volC v t l V.quota r V.dead :: TreeA Dp t V.T adr :: LogP l d V.L :: .pt r (.map (List.toArray es) ck) :: Dp
def VolP (v d : Nat) (V : VolS) : HA := grp (VolI v d V)

theorem held_found {holds : List (Int × Int)} {i : Int} {fr : Option (Nat × Value)} (h : fr.map Prod.snd = aget (holds.map encH) i) : foundV (.int .i64 0) false fr = .int .i64 ((aget holds i).getD 0) := by
  rw [found_of (v := .int .i64 0) h]
  have : aget (holds.map encH) i = (aget holds i).map encI := aget_map encI holds i
  rw [this]
  cases aget holds i <;> rfl
theorem encH_put (l : List (Int × Int)) (s k : Int) : aput (l.map encH) s (encI k) = (aput l s k).map encH := by
  unfold aput
  rw [List.map_cons]
  congr 1
  exact adel_map (fun _ v => encI v) l s
theorem encH_del (l : List (Int × Int)) (s : Int) : adel (l.map encH) s = (adel l s).map encH := adel_map (fun _ v => encI v) l s

attribute [local irreducible] Ops Segs Run Spec

theorem sweep_pred (bx v t l r : Nat) (V : VolS) (es : List MapEntry) (ck : Nat) (hm : MapR encI es ck (V.holds.map encH)) (F : Hp) (h1 : F bx = some (.cells [ptr v].toArray 26 (0, 0)))
    (h2 : F v = some (.cells [ptr t, ptr l, .int .i64 V.quota, .map (some r), .bool V.dead].toArray 40 (0, 0))) (h3 : F r = some (.map es.toArray ck)) :
    PredF Tryz.prog F (.func (.func 162) (List.toArray []) [ptr bx].toArray) encI fun i => decide (0 < V.held i) := by
  refine ⟨_, [ptr bx], _, rfl, Tryz.func162, rfl, by kernel_rfl, fun x F' e => ?_⟩
  obtain ⟨fr, hf, hg, _, _⟩ := hm.find same_i x
  refine Spec.enterC (n := 11) Tryz.func162 rfl (by simp) (by kernel_rfl) fun ec hc => ?_
  cbv at hc
  injection hc with hc
  subst hc
  simp only [argFr, Nat.reduceAdd]
  refine go ?_
  refine Ops.ldF rfl (e _ _ h1) rfl ?_
  refine go ?_
  refine Ops.ldF rfl (e _ _ h2) rfl ?_
  refine go ?_
  refine Ops.lkpF rfl rfl (e _ _ h3) hf ?_
  rw [held_found hg]
  refine go ?_
  exact Run.ret1 Tryz.func162 rfl rfl (fun h q => q) ⟨rfl, rfl⟩

theorem vol_sweep (v d : Nat) (V : VolS) (N : Nat) (inv : V.T.Inv) (few : V.T.Few N) (F : Hp) : Spec Tryz.prog 93 [ptr v].toArray F [VolP v d V] fun u H => u = .tuple [].toArray ∧ H = [VolP v d V.sweep] := by
  have ok := inv.ok few
  have hll : V.T.loose.length ≤ 1000000000000 := by
    have h1 : V.T.loose.length ≤ V.T.nodes.length := by
      unfold TreeS.loose
      rw [List.length_mergeSort]
      exact Nat.le_trans (List.length_filter_le _ _) (by simp)
    have := few.len
    have := few.great
    omega
  have hfl := List.length_filter_le (fun i => !decide (0 < V.held i)) V.T.loose
  have keys := inv.keys
  refine Spec.enterC (n := 14) Tryz.func93 rfl (by simp) (by kernel_rfl) fun ec hc => ?_
  cbv at hc
  injection hc with hc
  subst hc
  simp only [argFr, Nat.reduceAdd]
  refine Run.open_ s0 fun G hG => ?_
  obtain ⟨t, l, r, es, ck, adr, Dp, hm, rfl⟩ := hG
  simp only [List.cons_append, List.append_nil]
  refine Run.seq (Run.reg (Segs.oneS rfl (Ops.box (vs := [ptr v]) rfl rfl fun bx => ?_)))
  refine go1 ?_
  refine Ops.nil (Segs.nil (Run.reg ?_))
  refine Segs.lend [_, _, _] (.cons s0 (.cons s0 (.cons s2 .nil))) fun F1 x1 k1 => ?_
  refine Ops.mkf rfl ?_
  refine Ops.ldF rfl (k1 _ _ m0) rfl ?_
  refine go1 ?_
  refine Ops.ldF rfl (k1 _ _ m1) rfl ?_
  refine Ops.ldF rfl (k1 _ _ m0) rfl ?_
  refine go1 ?_
  refine Ops.ldF rfl (k1 _ _ m1) rfl ?_
  refine Ops.call1 rfl (.cons s0 .nil) (fun F' e kn => tree_Loose Dp t V.T adr N ok F') ?_
  rintro u G ⟨a2, c2, rfl, rfl⟩
  simp only [List.cons_append, List.nil_append]
  refine Ops.call1 rfl (.cons s0 .nil) (fun F' e kn => slices_DeleteFunc_int a2 c2 _ V.T.loose _ F' (sweep_pred bx v t l r V es ck hm F' (e _ _ (k1 _ _ m0)) (e _ _ (k1 _ _ m1)) (e _ _ (k1 _ _ m2))) hll) ?_
  intro u G hu
  obtain ⟨⟨a3, c3, rfl⟩, hu⟩ := hu
  refine Ops.nil (Segs.oneS rfl ?_)
  refine Ops.callE1 [TreeA Dp t V.T adr] (G ++ (volC v t l V.quota r V.dead :: LogP l d V.L :: .pt r (.map (List.toArray es) ck) :: Dp)) rfl (fun h q => ?_) (fun F' e kn => tree_Reap Dp t V.T adr keys _ _ F' (hu F' kn.left) (by omega)) ?_
  · have q1 := seps_tail q
    have q2 : seps ([volC v t l V.quota r V.dead, .pt r (.map (List.toArray es) ck)] ++ (G ++ ([TreeA Dp t V.T adr] ++ (LogP l d V.L :: Dp)))) h := by simpa using q1
    have q3 := seps_mid (A := [volC v t l V.quota r V.dead, .pt r (.map (List.toArray es) ck)]) h q2
    have q4 : seps (G ++ ([TreeA Dp t V.T adr] ++ (volC v t l V.quota r V.dead :: LogP l d V.L :: .pt r (.map (List.toArray es) ck) :: Dp))) h :=
      seps_app (A := G) (A' := G) (fun h q => q) (fun h q => (Take.cons s2 (.cons s0 (.cons s1 (.cons s0 .nil)))).sound q) h q3
    exact seps_mid (A := G) (B := [TreeA Dp t V.T adr]) h q4
  rintro u G2 ⟨rfl, rfl⟩
  refine go1 ?_
  refine Ops.nil (Segs.nil ?_)
  refine Run.done0 Tryz.func93 rfl (fun h q => ?_) ⟨rfl, rfl⟩
  have q1 : seps ([TreeA Dp t (reapAll V.T (V.T.loose.filter fun i => !decide (0 < V.held i))) adr] ++ (G ++ (volC v t l V.quota r V.dead :: LogP l d V.L :: .pt r (.map (List.toArray es) ck) :: Dp))) h := q
  have q2 := seps_drop (A := G) [TreeA Dp t (reapAll V.T (V.T.loose.filter fun i => !decide (0 < V.held i))) adr] h q1
  exact fold_app (I := VolI v d V.sweep) (R := []) ⟨t, l, r, es, ck, adr, Dp, hm, rfl⟩ h (by
    have := (Take.cons s1 (.cons s0 (.cons s0 (.cons s0 .nil)))).sound q2
    rw [List.append_nil]
    exact this)

theorem vol_Held (v d : Nat) (V : VolS) (i : Int) (F : Hp) : Spec Tryz.prog 21 [ptr v, .int .i64 i].toArray F [VolP v d V] fun u H => u = .int .i64 (V.held i) ∧ H = [VolP v d V] := by
  refine Spec.enterC (n := 11) Tryz.func21 rfl (by simp) (by kernel_rfl) fun ec hc => ?_
  cbv at hc
  injection hc with hc
  subst hc
  simp only [argFr, Nat.reduceAdd]
  refine Run.open_ s0 fun G hG => ?_
  have hG' := hG
  obtain ⟨t, l, r, es, ck, adr, Dp, hm, rfl⟩ := hG
  obtain ⟨fr, hf, hg, _, _⟩ := hm.find same_i i
  simp only [List.cons_append, List.append_nil]
  refine go ?_
  refine Ops.lkp rfl rfl m3 hf ?_
  rw [held_found hg]
  refine go ?_
  exact Run.ret1 Tryz.func21 rfl rfl (fun h q => fold_app (I := VolI v d V) (R := []) hG' h (by simpa using q)) ⟨rfl, rfl⟩

theorem vol_Dead (v d : Nat) (V : VolS) (F : Hp) : Spec Tryz.prog 82 [ptr v].toArray F [VolP v d V] fun u H => u = .bool V.dead ∧ H = [VolP v d V] := by
  refine Spec.enterC (n := 7) Tryz.func82 rfl (by simp) (by kernel_rfl) fun ec hc => ?_
  cbv at hc
  injection hc with hc
  subst hc
  simp only [argFr, Nat.reduceAdd]
  refine Run.open_ s0 fun G hG => ?_
  have hG' := hG
  obtain ⟨t, l, r, es, ck, adr, Dp, hm, rfl⟩ := hG
  simp only [List.cons_append, List.append_nil]
  refine go ?_
  exact Run.ret1 Tryz.func82 rfl rfl (fun h q => fold_app (I := VolI v d V) (R := []) hG' h (by simpa using q)) ⟨rfl, rfl⟩
end Eng
end Go.Proofs.YtnfomoeicgdkkaaGreatDoor

/- A volume: files are held, and let go; operations are done, and kept. -/
set_option linter.unusedSimpArgs false
set_option linter.unusedVariables false
set_option maxRecDepth 1000000
namespace Go.Proofs.YtnfomoeicgdkkaaGreatDoor

def VolS.keep (V : VolS) (D : DiskS) (T : TreeS) (ops : List OpS) : Int × LogS × DiskS :=
  if (V.L.append D (2 :: packOps ops)).1 = 7 ∨ (V.L.append D (2 :: packOps ops)).1 = 6 then (V.L.append D (2 :: packOps ops)).2.1.rewrite (V.L.append D (2 :: packOps ops)).2.2 ((dumpT T).map (1 :: ·)) else V.L.append D (2 :: packOps ops)

def VolS.doV (V : VolS) (D : DiskS) (ops : List OpS) : Int × VolS × DiskS :=
  if V.dead = true then (3, V, D) else if (doT V.T ops).1 ≠ 0 then ((doT V.T ops).1, V, D) else
    if (V.keep D (doT V.T ops).2 ops).1 ≠ 0 then ((V.keep D (doT V.T ops).2 ops).1, { V with L := (V.keep D (doT V.T ops).2 ops).2.1, dead := V.dead || decide ((V.keep D (doT V.T ops).2 ops).1 = 3) }, (V.keep D (doT V.T ops).2 ops).2.2)
    else (0, VolS.sweep { V with T := (doT V.T ops).2, L := (V.keep D (doT V.T ops).2 ops).2.1 }, (V.keep D (doT V.T ops).2 ops).2.2)

namespace Eng
attribute [local irreducible] Ops Segs Run Spec

theorem vol_Hold (v d : Nat) (V : VolS) (N : Nat) (inv : V.T.Inv) (few : V.T.Few N) (hb : ∀ i c, aget V.holds i = some c → 0 ≤ c ∧ c ≤ 1000000000) (p : Bytes) (F : Hp) (g : Glob F) :
    Spec Tryz.prog 19 [ptr v, sv p].toArray F [VolP v d V] fun u H => u = .tuple [.int .i64 (V.hold p).1.1, .int .i64 (V.hold p).1.2].toArray ∧ H = [VolP v d (V.hold p).2] := by
  have ok := inv.ok few
  have hh : V.hold p = if V.T.find p = 0 then ((0, 8), V) else if V.T.isDir p = true then ((0, 10), V) else ((V.T.find p, 0), { V with holds := aput V.holds (V.T.find p) (V.held (V.T.find p) + 1) }) := rfl
  have hfr := find_mem ok p
  have hhb : 0 ≤ V.held (V.T.find p) ∧ V.held (V.T.find p) ≤ 1000000000 := by
    unfold VolS.held
    cases e : aget V.holds (V.T.find p) with
    | none => simp
    | some c => exact hb _ c e
  have hhd : V.held (V.T.find p) = (aget V.holds (V.T.find p)).getD 0 := rfl
  refine Spec.enterC (n := 35) Tryz.func19 rfl (by simp) (by kernel_rfl) fun ec hc => ?_
  cbv at hc
  injection hc with hc
  subst hc
  simp only [argFr, Nat.reduceAdd]
  refine Run.open_ s0 fun G hG => ?_
  obtain ⟨t, l, r, es, ck, adr, Dp, hm, rfl⟩ := hG
  have fold : ∀ (V' : VolS) (es' : List MapEntry) (ck' : Nat), V'.T = V.T → V'.L = V.L → V'.quota = V.quota → V'.dead = V.dead → MapR encI es' ck' (V'.holds.map encH) →
      ∀ h, seps (TreeA Dp t V.T adr :: volC v t l V.quota r V.dead :: LogP l d V.L :: .pt r (.map (List.toArray es') ck') :: Dp) h → seps [VolP v d V'] h := by
    intro V' es' ck' e1 e2 e3 e4 hm' h q
    refine fold_app (I := VolI v d V') (R := []) ⟨t, l, r, es', ck', adr, Dp, hm', rfl⟩ h ?_
    rw [List.append_nil, e1, e2, e3, e4]
    exact seps_swap q
  simp only [List.cons_append, List.append_nil]
  refine go ?_
  refine Ops.call1 rfl (.cons s1 .nil) (fun F' e kn => tree_Find Dp t V.T adr N ok p F' (g.ext e)) ?_
  rintro u G ⟨rfl, rfl⟩
  simp only [List.cons_append, List.nil_append]
  refine go ?_
  by_cases h0 : V.T.find p = 0
  · rw [if_pos h0] at hh
    refine Run.condT (by simp [get, look, h0]) ?_
    refine go ?_
    exact Run.ret2 Tryz.func19 rfl rfl rfl (fun h q => fold V es ck rfl rfl rfl rfl hm h q) ⟨by rw [hh], by rw [hh]⟩
  rw [if_neg h0] at hh
  refine Run.condF (by simp [get, look, h0]) ?_
  refine go ?_
  refine Ops.call1 rfl (.cons s0 .nil) (fun F' e kn => tree_Dir Dp t V.T adr N ok p F' (g.ext e)) ?_
  rintro u G ⟨rfl, rfl⟩
  simp only [List.cons_append, List.nil_append]
  refine go1 ?_
  refine Ops.nil (Segs.nil ?_)
  cases hd : V.T.isDir p with
  | true =>
    rw [hd, if_pos rfl] at hh
    refine Run.condT rfl ?_
    refine go ?_
    exact Run.ret2 Tryz.func19 rfl rfl rfl (fun h q => fold V es ck rfl rfl rfl rfl hm h q) ⟨by rw [hh], by rw [hh]⟩
  | false =>
    rw [hd, if_neg (by simp)] at hh
    obtain ⟨fr, hf, hg, hput, _⟩ := hm.find same_i (V.T.find p)
    refine Run.condF rfl ?_
    refine go ?_
    refine Ops.lkp rfl rfl m3 hf ?_
    rw [held_found hg, ← hhd]
    refine go ?_
    refine Ops.mup rfl rfl rfl hf u3 ?_
    refine go ?_
    refine Run.ret2 Tryz.func19 rfl rfl rfl (fun h q => fold { V with holds := aput V.holds (V.T.find p) (V.held (V.T.find p) + 1) } _ _ rfl rfl rfl rfl ?_ h q) ⟨by rw [hh], by rw [hh]⟩
    have := hput (encI (V.held (V.T.find p) + 1))
    rw [encH_put] at this
    exact this

theorem vol_Let (v d : Nat) (V : VolS) (N : Nat) (inv : V.T.Inv) (few : V.T.Few N) (hb : ∀ i c, aget V.holds i = some c → 0 ≤ c ∧ c ≤ 1000000000) (i : Int) (F : Hp) :
    Spec Tryz.prog 23 [ptr v, .int .i64 i].toArray F [VolP v d V] fun u H => u = .int .i64 (V.lets i).1 ∧ H = [VolP v d (V.lets i).2] := by
  have hh : V.lets i = if V.held i = 0 then (8, V) else (0, VolS.sweep (if V.held i - 1 = 0 then { V with holds := adel (aput V.holds i (V.held i - 1)) i } else { V with holds := aput V.holds i (V.held i - 1) })) := rfl
  have hhb : 0 ≤ V.held i ∧ V.held i ≤ 1000000000 := by
    unfold VolS.held
    cases e : aget V.holds i with
    | none => simp
    | some c => exact hb _ c e
  have hhd : V.held i = (aget V.holds i).getD 0 := rfl
  refine Spec.enterC (n := 33) Tryz.func23 rfl (by simp) (by kernel_rfl) fun ec hc => ?_
  cbv at hc
  injection hc with hc
  subst hc
  simp only [argFr, Nat.reduceAdd]
  refine Run.open_ s0 fun G hG => ?_
  obtain ⟨t, l, r, es, ck, adr, Dp, hm, rfl⟩ := hG
  have fold : ∀ (V' : VolS) (es' : List MapEntry) (ck' : Nat), V'.T = V.T → V'.L = V.L → V'.quota = V.quota → V'.dead = V.dead → MapR encI es' ck' (V'.holds.map encH) →
      ∀ h, seps (volC v t l V.quota r V.dead :: TreeA Dp t V.T adr :: LogP l d V.L :: .pt r (.map (List.toArray es') ck') :: Dp) h → seps [VolP v d V'] h := by
    intro V' es' ck' e1 e2 e3 e4 hm' h q
    refine fold_app (I := VolI v d V') (R := []) ⟨t, l, r, es', ck', adr, Dp, hm', rfl⟩ h ?_
    rw [List.append_nil, e1, e2, e3, e4]
    exact q
  obtain ⟨fr, hf, hg, hput, _⟩ := hm.find same_i i
  simp only [List.cons_append, List.append_nil]
  refine go ?_
  refine Ops.lkp rfl rfl m3 hf ?_
  rw [held_found hg, ← hhd]
  refine go ?_
  refine Run.condD (p := V.held i = 0) rfl (fun h0 => ?_) (fun h0 => ?_)
  · rw [if_pos h0] at hh
    refine go ?_
    exact Run.ret1 Tryz.func23 rfl rfl (fun h q => fold V es ck rfl rfl rfl rfl hm h q) ⟨by rw [hh], by rw [hh]⟩
  rw [if_neg h0] at hh
  refine go ?_
  refine Ops.lkp rfl rfl m3 hf ?_
  rw [held_found hg, ← hhd]
  refine go ?_
  refine Ops.mup rfl rfl rfl hf u3 ?_
  have hm2 := hput (encI (V.held i - 1))
  rw [encH_put] at hm2
  obtain ⟨fr2, hf2, hg2, _, hdel2⟩ := hm2.find same_i i
  have hh2 : (aget (aput V.holds i (V.held i - 1)) i).getD 0 = V.held i - 1 := by rw [aget_aput, if_pos rfl]; rfl
  refine go ?_
  refine Ops.lkp rfl rfl m3 hf2 ?_
  rw [held_found hg2, hh2]
  refine go ?_
  refine Run.condD (p := V.held i - 1 = 0) rfl (fun h1 => ?_) (fun h1 => ?_)
  · rw [if_pos h1] at hh
    refine go ?_
    refine Ops.del rfl rfl hf2 u3 ?_
    rw [encH_del] at hdel2
    refine go ?_
    refine Ops.callE1 [VolP v d { V with holds := adel (aput V.holds i (V.held i - 1)) i }] [] rfl (fun h q => by
      rw [List.append_nil]; exact fold { V with holds := adel (aput V.holds i (V.held i - 1)) i } _ _ rfl rfl rfl rfl hdel2 h q) (fun F' e kn => vol_sweep v d { V with holds := adel (aput V.holds i (V.held i - 1)) i } N inv few F') ?_
    rintro u G ⟨rfl, rfl⟩
    refine go ?_
    exact Run.ret1 Tryz.func23 rfl rfl (fun h q => q) ⟨by rw [hh], by rw [hh]; rfl⟩
  · rw [if_neg h1] at hh
    refine go ?_
    refine Ops.callE1 [VolP v d { V with holds := aput V.holds i (V.held i - 1) }] [] rfl (fun h q => by
      rw [List.append_nil]; exact fold { V with holds := aput V.holds i (V.held i - 1) } _ _ rfl rfl rfl rfl hm2 h q) (fun F' e kn => vol_sweep v d { V with holds := aput V.holds i (V.held i - 1) } N inv few F') ?_
    rintro u G ⟨rfl, rfl⟩
    refine go ?_
    exact Run.ret1 Tryz.func23 rfl rfl (fun h q => q) ⟨by rw [hh], by rw [hh]; rfl⟩
end Eng
end Go.Proofs.YtnfomoeicgdkkaaGreatDoor

/- A volume is kept anew, in the place of all that was kept. -/
set_option linter.unusedSimpArgs false
set_option linter.unusedVariables false
set_option maxRecDepth 1000000
namespace Go.Proofs.YtnfomoeicgdkkaaGreatDoor

theorem dumpT_len {T : TreeS} {N : Nat} (few : T.Few N) : (dumpT T).length ≤ N + 1 := by
  unfold dumpT
  have h1 := dump_len T (sortI (T.nodes.map Prod.fst))
  rw [sortI_len, List.length_map] at h1
  have := few.len
  rw [List.length_cons]
  omega
theorem dumpT_rows {T : TreeS} {N : Nat} (inv : T.Inv) (neat : T.Neat N) : ∀ b ∈ dumpT T, b.length ≤ 3520 + 20 * N := by
  intro b hb
  unfold dumpT at hb
  cases hb with
  | head => rw [le4_len]; omega
  | tail _ hb =>
    obtain ⟨i, _, hb⟩ := List.mem_flatMap.1 hb
    unfold dumpAt at hb
    cases hi : aget T.nodes i with
    | none => rw [hi] at hb; cases hb
    | some n =>
      rw [hi] at hb
      dsimp only at hb
      split at hb
      · cases hb
      · rw [List.mem_singleton] at hb
        subst hb
        have h1 := rowParts_size (i := i) (neat i n hi) (inv.data i n hi)
        have h2 := (neat i n hi).1
        omega

namespace Eng
attribute [local irreducible] Ops Segs Run Spec

theorem vol_anew (v t l r d u : Nat) (q : Int) (dead : Bool) (L : LogS) (D : DiskS) (lok : L.Ok D) (hc : D.cache.length + 5000 ≤ 1099511627776) (Dp : List HA) (T : TreeS) (adr : Int → Nat) (N : Nat) (inv : T.Inv) (few : T.Few N) (neat : T.Neat N) (hN : N ≤ 1000000)
    (Gt : List HA) (hG : TreeD Dp u T adr Gt) (F : Hp) (kt : Known Gt F) (kd : Known Dp F) (hv : F v = some (.cells [ptr t, ptr l, .int .i64 q, .map (some r), .bool dead].toArray 40 (0, 0))) :
    Spec Tryz.prog 92 [ptr v, ptr u].toArray F [LogP l d L, DiskP d D] fun x H => x = .int .i64 (L.rewrite D ((dumpT T).map (1 :: ·))).1 ∧ H = [LogP l d (L.rewrite D ((dumpT T).map (1 :: ·))).2.1, DiskP d (L.rewrite D ((dumpT T).map (1 :: ·))).2.2] := by
  have hdl := dumpT_len few
  have hdr := dumpT_rows inv neat
  refine Spec.enterC (n := 28) Tryz.func92 rfl (by simp) (by kernel_rfl) fun ec hc => ?_
  cbv at hc
  injection hc with hc
  subst hc
  simp only [argFr, Nat.reduceAdd]
  refine go ?_
  refine Ops.call1 rfl .nil (fun F' e kn => tree_Dump Dp u T adr N inv few neat hN Gt hG F' (fun b o m => e _ _ (kt b o m)) (fun b o m => e _ _ (kd b o m))) ?_
  rintro x G ⟨a1, c1, vs1, rfl, hvl1, rfl⟩
  generalize dumpT T = dump at *
  simp only [List.cons_append, List.nil_append]
  refine go1 ?_
  refine Ops.nil (Segs.nil ?_)
  refine Run.open_ s0 fun G1 h1 => ?_
  refine Run.conseq (H' := RowsP vs1 dump :: (G1 ++ [LogP l d L, DiskP d D])) (fun h q => seps_mid (A := G1) (B := [_]) h q) ?_
  refine Run.open_ s0 fun G2 h2 => ?_
  refine Run.conseq (H' := (G2 ++ G1) ++ [LogP l d L, DiskP d D]) (fun h q => by rw [List.append_assoc]; exact q) ?_
  refine Run.lendD (G2 ++ G1) (take_app _ _) fun F1 x1 k1 => ?_
  rw [← hvl1] at h1
  have hbb := h1.rdBB k1.right (h2.rds k1.left)
  rw [hvl1] at hbb
  have hv1 := x1 _ _ hv
  clear h1 h2 k1
  obtain ⟨oa, oc, hea, hbb⟩ := hbb
  have hea' : (oa : Option Addr) = a1 ∧ oc = c1 := by
    injection hea with e1 e2 e3
    exact ⟨e1.symm, e3.symm⟩
  obtain ⟨rfl, rfl⟩ := hea'
  clear hea
  refine go ?_
  refine Run.loopI (ι := Nat × Option Addr × Nat × List Value) (fun x => dump.length - x.1) (fun x => x.1 ≤ dump.length ∧ x.2.2.2.length = x.1)
    (fun x => [(11, .int .i64 x.1), (10, .int .i64 dump.length), (9, .slice oa dump.length oc), (5, .slice x.2.1 x.1 x.2.2.1), (0, ptr v)])
    (fun x => [OwnS x.2.1 x.1 x.2.2.1 1 22 x.2.2.2, RowsP x.2.2.2 ((dump.take x.1).map (1 :: ·)), LogP l d L, DiskP d D]) (0, none, 0, []) ⟨Nat.zero_le _, rfl⟩ (.cons rfl (.cons rfl (.cons rfl (.cons rfl (.cons rfl .nil))))) (fun h q => own_new h (rows_none h q)) ?_
  rintro ⟨i, ra, rc, rvs⟩ ⟨hi, hrv⟩ ih
  have ihn := ih
  clear ih
  dsimp only at hi hrv ihn ⊢
  refine go ?_
  refine Run.condD rfl (fun hlt => ?_) (fun hge => ?_)
  · have hlt' : i < dump.length := by omega
    have hel : dump[i]? = some dump[i] := List.getElem?_eq_getElem hlt'
    have htk : (dump.take (i + 1)).map (1 :: ·) = (dump.take i).map (1 :: ·) ++ [1 :: dump[i]] := by rw [List.take_succ_eq_append_getElem hlt', List.map_append]; rfl
    have hsz := hdr _ (List.getElem_mem hlt')
    rcases hbb with hbb | ⟨ob, o, Lc, Tc, fz, rfl, hF, hl, hrd⟩
    · rw [hbb] at hlt'; simp at hlt'
    obtain ⟨x, hx, hrx⟩ := hrd i _ hel
    have hnext := fun a c vs => ihn (i + 1, a, c, vs)
    dsimp only at hnext
    rw [htk] at hnext
    clear ihn htk
    generalize (dump.take i).map (1 :: ·) = pre at *
    generalize dump[i] = bs at *
    refine go ?_
    refine Ops.ixS rfl rfl ⟨by omega, by omega⟩ ?_
    refine Ops.ldF rfl hF (by rw [Int.toNat_natCast, Nat.mul_one]; exact hx) ?_
    refine go ?_
    refine Ops.lit [.int .u8 1] rfl rfl fun b1 => ?_
    refine go1 ?_
    refine Ops.conseq (own_of_pt (n := 1) (s := 1) rfl) (closed_segs closed_run) ?_
    refine Ops.app (m := bs.length) (ys := bvs bs) rfl rfl hrx.len s0 (fun w h q f => hrx.shows w h q f) (bvs_one bs) (by rw [bvs_len]; simp) (by simp) (by omega) fun a2 c2 => ?_
    refine Ops.lit [.slice a2 (1 + bs.length) c2] rfl rfl fun b3 => ?_
    refine Ops.app (m := 1) (ys := [.slice a2 (1 + bs.length) c2]) rfl rfl rfl s2 (shows_pt m0 (Nat.le_refl 1) rfl) (fun v hv => by rw [List.mem_singleton] at hv; subst hv; rfl) rfl (by decide) (by omega) fun a4 c4 => ?_
    refine go ?_
    refine Run.lp (Run.again (hnext a4 c4 (rvs ++ [.slice a2 (1 + bs.length) c2]) (by omega) ⟨by omega, by simp [hrv]⟩) (.cons rfl (.cons rfl (.cons rfl (.cons rfl (.cons rfl .nil))))) (fun h q => ?_))
    refine seps_cons (fun h q => ?_) q
    have e1 : [Value.int .u8 1] ++ bvs bs = bvs (1 :: bs) := rfl
    rw [e1] at q
    exact rows_snoc h (take_sub (.cons s2 (.cons s1 (.cons s1 (.cons s1 .nil)))) h q)
  · have hie : i = dump.length := by omega
    subst hie
    rw [List.take_length]
    refine Run.exit rfl ?_
    refine Run.open_ s0 fun G1 h1 => ?_
    refine Run.conseq (H' := RowsP rvs (dump.map (1 :: ·)) :: (G1 ++ [LogP l d L, DiskP d D])) (fun h q => seps_mid (A := G1) (B := [_]) h q) ?_
    refine Run.open_ s0 fun G2 h2 => ?_
    refine Run.conseq (H' := (G2 ++ G1) ++ [LogP l d L, DiskP d D]) (fun h q => by rw [List.append_assoc]; exact q) ?_
    refine Run.lendD (G2 ++ G1) (take_app _ _) fun F2 x2 k2 => ?_
    rw [← hrv] at h1
    have hbb2 := h1.rdBB k2.right (h2.rds k2.left)
    rw [hrv] at hbb2
    refine go ?_
    refine Ops.ldF rfl (x2 _ _ hv1) rfl ?_
    refine go ?_
    refine Ops.call1 rfl (.cons s0 (.cons s0 .nil)) (fun F' e kn => log_Rewrite l d L D lok hc _ _ (by simp; omega) F' (hbb2.ext e)) ?_
    rintro x G ⟨rfl, rfl⟩
    simp only [List.cons_append, List.nil_append]
    refine go ?_
    exact Run.ret1 Tryz.func92 rfl rfl (fun h q => q) ⟨rfl, rfl⟩
end Eng
end Go.Proofs.YtnfomoeicgdkkaaGreatDoor
