/- Loops, and small rules. -/
import Derived.Test.YtbhlolmglieehaaEngR
set_option linter.unusedSimpArgs false
set_option linter.unusedVariables false
namespace Go.Proofs.Ytbhlolmglieehaa
namespace Eng

theorem own_new {s : Nat} {T : TypeId} {H : List HA} : ∀ h, seps H h → seps (OwnS none 0 0 s T [] :: H) h :=
  fun h q => ⟨noHp, h, Split.empty h, ⟨[], own_nil, trivial⟩, q⟩

theorem FrSub.nil {l : Fr} : FrSub l [] := fun _ _ h => by cases h
theorem FrSub.cons {l r : Fr} {k : Nat} {v : Value} (h : look l k = some v) (s : FrSub l r) : FrSub l ((k, v) :: r) := fun t u e => by
  rw [look_cons] at e
  split at e
  · rename_i x; subst x; cases e; exact h
  · exact s t u e

section
variable {P : Program} {f : FuncId} {n : Nat} {F : Hp} {K : List EI} {l : Fr} {H : List HA} {R : Value → List HA → Prop}

theorem Run.again {l' : Fr} {H' : List HA} (r : Run P f n F K l' H' R) (e : FrSub l l') (q : ∀ h, seps H h → seps H' h) : Run P f n F K l H R := Run.conseq q (Run.sub e r)

/-- A loop: its state is an ι, with what the temporaries and the memory are at it; a round lowers the measure. -/
theorem Run.loopI {ι : Type} {B : EC} (μ : ι → Nat) (Inv : ι → Prop) (lf : ι → Fr) (Hf : ι → List HA) (x0 : ι) (h0 : Inv x0) (e : FrSub l (lf x0)) (q : ∀ h, seps H h → seps (Hf x0) h)
    (step : ∀ x, Inv x → (∀ y, μ y < μ x → Inv y → Run P f n F (.code (.loop B) :: K) (lf y) (Hf y) R) → Run P f n F (.code B :: .lp B :: K) (lf x) (Hf x) R) :
    Run P f n F (.code (.loop B) :: K) l H R := by
  have key : ∀ m x, μ x = m → Inv x → Run P f n F (.code (.loop B) :: K) (lf x) (Hf x) R := by
    intro m
    induction m using Nat.strongRecOn with
    | _ m ih =>
      intro x hm hx
      refine Run.loop (step x hx fun y hy hy2 => ih (μ y) (by omega) y rfl hy2)
  exact Run.again (key _ x0 rfl h0) e q

theorem Run.condT {c : Operand} {x y : EC} (hc : get l c = some (.bool true)) (r : Run P f n F (.code x :: K) l H R) : Run P f n F (.code (.cond c x y) :: K) l H R :=
  Run.cond hc (fun _ => r) (fun e => by cases e)
theorem Run.condF {c : Operand} {x y : EC} (hc : get l c = some (.bool false)) (r : Run P f n F (.code y :: K) l H R) : Run P f n F (.code (.cond c x y) :: K) l H R :=
  Run.cond hc (fun e => by cases e) (fun _ => r)

/-- a test on a condition -/
theorem Run.condD {c : Operand} {x y : EC} {p : Prop} [Decidable p] (hc : get l c = some (.bool (decide p))) (r1 : p → Run P f n F (.code x :: K) l H R) (r2 : ¬ p → Run P f n F (.code y :: K) l H R) :
    Run P f n F (.code (.cond c x y) :: K) l H R :=
  Run.cond hc (fun e => r1 (of_decide_eq_true e)) (fun e => r2 (of_decide_eq_false e))

/-- a result is one temporary -/
theorem Run.ret1 {fn : Func} {t : Nat} {v : Value} {H' : List HA} (hf : P.funcs[f]? = some fn) (hfn : fn.results = [.tmp t].toArray) (hv : look l t = some v) (hH : ∀ h, seps H h → seps H' h) (hR : R v H') : Run P f n F (.code .ret :: K) l H R :=
  Run.ret hf hfn (.tmp hv .nil) hH hR
theorem Run.ret2 {fn : Func} {t u : Nat} {v x : Value} {H' : List HA} (hf : P.funcs[f]? = some fn) (hfn : fn.results = [.tmp t, .tmp u].toArray) (hv : look l t = some v) (hx : look l u = some x) (hH : ∀ h, seps H h → seps H' h) (hR : R (.tuple [v, x].toArray) H') :
    Run P f n F (.code .ret :: K) l H R :=
  Run.ret hf hfn (.tmp hv (.tmp hx .nil)) hH hR
theorem Run.ret0 {fn : Func} {H' : List HA} (hf : P.funcs[f]? = some fn) (hfn : fn.results = [].toArray) (hH : ∀ h, seps H h → seps H' h) (hR : R (.tuple [].toArray) H') : Run P f n F (.code .ret :: K) l H R :=
  Run.ret hf hfn .nil hH hR
theorem Run.done0 {fn : Func} {H' : List HA} (hf : P.funcs[f]? = some fn) (hfn : fn.results = [].toArray) (hH : ∀ h, seps H h → seps H' h) (hR : R (.tuple [].toArray) H') : Run P f n F [] l H R :=
  Run.done hf hfn .nil hH hR
end

section
variable {P : Program} {F : Hp} {l : Fr} {H : List HA} {C : Fr → List HA → Prop} {es : List EG} {i d : Nat} {c : Bool}

theorem Ops.st0 {x y : Operand} {b o : Nat} {L : List Value} {T : TypeId} {v : Value} {H' : List HA} (hx : get l x = some (.pointer (some ⟨b, o, none⟩))) (hy : get l y = some v) (hvs : vcells v = [v]) (h1 : one v = true)
    (u : Upd H (.pt b (.cells L.toArray T (0, 0))) (.pt b (.cells (L.set o v).toArray T (0, 0))) H') (hl : o < L.length)
    (k : Ops P F es l H' C) : Ops P F (EG.mk i none none false (.st x y 1) :: es) l H C := Ops.st hx hy hvs h1 u hl k

theorem Ops.stn0 {x y : Operand} {b o n : Nat} {L vs : List Value} {T : TypeId} {v : Value} {H' : List HA} (hx : get l x = some (.pointer (some ⟨b, o, none⟩))) (hy : get l y = some v) (hvs : vcells v = vs) (hn : vs.length = n) (h1 : oneCells vs)
    (u : Upd H (.pt b (.cells L.toArray T (0, 0))) (.pt b (.cells (L.take o ++ vs ++ L.drop (o + n)).toArray T (0, 0))) H') (hl : o + n ≤ L.length) (h0 : vs ≠ [])
    (k : Ops P F es l H' C) : Ops P F (EG.mk i none none false (.st x y n) :: es) l H C := Ops.stn hx hy hvs hn h1 u hl h0 k

theorem Ops.call0 {g : FuncId} {args : List Operand} {vs : List Value} {Pre Rest : List HA} {R : Value → List HA → Prop} (ha : getL l args = some vs) (t : Take H Pre Rest)
    (sp : ∀ F', Ext F F' → Known Rest F' → Spec P g vs.toArray F' Pre R) (k : ∀ v G, R v G → Ops P F es l (G ++ Rest) C) :
    Ops P F (EG.mk i none none false (.call g args.toArray) :: es) l H C := Ops.call ha t sp k

theorem Ops.call1 {g : FuncId} {args : List Operand} {vs : List Value} {Pre Rest : List HA} {R : Value → List HA → Prop} (ha : getL l args = some vs) (t : Take H Pre Rest)
    (sp : ∀ F', Ext F F' → Known Rest F' → Spec P g vs.toArray F' Pre R) (k : ∀ v G, R v G → Ops P F es ((d, v) :: l) (G ++ Rest) C) :
    Ops P F (EG.mk i (some d) none false (.call g args.toArray) :: es) l H C := Ops.call ha t sp k

theorem take_app (Pre Rest : List HA) : Take (Pre ++ Rest) Pre Rest := by
  induction Pre with
  | nil => exact .nil
  | cons p ps ih => exact .cons .here ih

/-- a call for which what is owned is first put otherwise (closed into groups, say) -/
theorem Ops.callE {dd : Option Nat} {g : FuncId} {args : List Operand} {vs : List Value} (Pre Rest : List HA) {R : Value → List HA → Prop} (ha : getL l args = some vs) (e : ∀ h, seps H h → seps (Pre ++ Rest) h)
    (sp : ∀ F', Ext F F' → Known Rest F' → Spec P g vs.toArray F' Pre R) (k : ∀ v G, R v G → Ops P F es (putD dd l v) (G ++ Rest) C) :
    Ops P F (EG.mk i dd none false (.call g args.toArray) :: es) l H C :=
  Ops.busy (R := fun v H' => ∃ G, R v G ∧ H' = G ++ Rest)
    (fun w h ρ a q f => by
      simp only [EOp.wp]
      have : args.toArray.map ρ = vs.toArray := by rw [← getL_sound a ha]; simp
      rw [this]
      refine (Spec.frame (take_app Pre Rest) sp w h (e h q) f).mono ?_
      rintro e w' ⟨v, H', h', he, r, q', f', kp⟩
      exact ⟨v, H', h', he, r, q', f', kp⟩)
    fun v H' ⟨G, r, e⟩ => by subst e; exact k v G r

theorem Ops.callE1 {g : FuncId} {args : List Operand} {vs : List Value} (Pre Rest : List HA) {R : Value → List HA → Prop} (ha : getL l args = some vs) (e : ∀ h, seps H h → seps (Pre ++ Rest) h)
    (sp : ∀ F', Ext F F' → Known Rest F' → Spec P g vs.toArray F' Pre R) (k : ∀ v G, R v G → Ops P F es ((d, v) :: l) (G ++ Rest) C) :
    Ops P F (EG.mk i (some d) none false (.call g args.toArray) :: es) l H C := Ops.callE Pre Rest ha e sp k

theorem Ops.gn1 {s : Nat} {want : Bool} {v : Value} {op : EOp} (hl : look l s = some v) (hv : asB v ≠ some want) (k : Ops P F es ((d, undef) :: l) H C) : Ops P F (EG.mk i (some d) (some (s, want)) c op :: es) l H C := Ops.gn hl hv k
theorem Ops.gnB {s : Nat} {want t : Bool} {op : EOp} (hl : look l s = some (.bool t)) (hv : t ≠ want) (k : Ops P F es ((d, undef) :: l) H C) : Ops P F (EG.mk i (some d) (some (s, want)) c op :: es) l H C := Ops.gn hl (by simpa [asB] using hv) k
theorem Ops.gyB {dd : Option Nat} {s : Nat} {want t : Bool} {op : EOp} (hl : look l s = some (.bool t)) (hv : t = want) (k : Ops P F (EG.mk i dd none c op :: es) l H C) : Ops P F (EG.mk i dd (some (s, want)) c op :: es) l H C := Ops.gy hl (by simp [asB, hv]) k

theorem Ops.mks {T : TypeId} {z : List Value} {bytes : Nat} {x y : Operand} {k1 k2 : IntKind} {n m : Int} (hx : get l x = some (.int k1 n)) (hy : get l y = some (.int k2 m)) (h0 : 0 ≤ n) (h1 : n ≤ m) (hb : (bytes : Int) * m ≤ 2 ^ 48)
    (k : ∀ b, Ops P F es ((d, .slice (some ⟨b, 0, none⟩) n.toNat m.toNat) :: l) (.pt b (.cells (zerosL z m.toNat).toArray T (0, 0)) :: H) C) : Ops P F (EG.mk i (some d) none false (.mks T z bytes x y) :: es) l H C :=
  Ops.busy (R := fun v' H' => ∃ b, v' = .slice (some ⟨b, 0, none⟩) n.toNat m.toNat ∧ H' = .pt b (.cells (zerosL z m.toNat).toArray T (0, 0)) :: H)
    (fun w h ρ a q f => ⟨k1, k2, n, m, a _ _ hx, a _ _ hy, h0, h1, hb, _, _, ⟨_, rfl, rfl⟩, seps_new _ q f.fresh.1, f.new _, Keeps.newBlk w _⟩)
    fun v' H' ⟨b, e1, e2⟩ => by subst e1; subst e2; exact k b

def getParts (l : Fr) : List (Nat × Nat × Operand) → Option (List (Nat × Nat × Value))
  | [] => some []
  | (o, s, x) :: r => match get l x, getParts l r with
    | some v, some vs => some ((o, s, v) :: vs)
    | _, _ => none

theorem getParts_sound {ρ : Operand → Value} (a : Agrees l ρ) : ∀ {parts : List (Nat × Nat × Operand)} {ps : List (Nat × Nat × Value)}, getParts l parts = some ps → parts.map (fun p => (p.1, p.2.1, ρ p.2.2)) = ps := by
  intro parts
  induction parts with
  | nil => intro ps h; cases h; rfl
  | cons p r ih =>
    intro ps h
    obtain ⟨o, s, x⟩ := p
    simp only [getParts] at h
    split at h
    · rename_i v vs h1 h2; cases h; rw [List.map_cons, ih h2]; simp only; rw [a _ _ h1]
    · cases h

theorem Ops.bld {z : List Value} {parts : List (Nat × Nat × Operand)} {ps : List (Nat × Nat × Value)} (cs : List Value) (hp : getParts l parts = some ps) (hb : buildL z ps = some cs)
    (k : Ops P F es ((d, .agg cs.toArray) :: l) H C) : Ops P F (EG.mk i (some d) none c (.build z parts) :: es) l H C := Ops.build (fun _ a => getParts_sound a hp) hb k

theorem Ops.lit {T : TypeId} {z : List Value} {n : Nat} {parts : List (Nat × Nat × Operand)} {ps : List (Nat × Nat × Value)} (cs : List Value) (hp : getParts l parts = some ps) (hb : buildL z ps = some cs)
    (k : ∀ b, Ops P F es ((d, .slice (some ⟨b, 0, none⟩) n n) :: l) (.pt b (.cells cs.toArray T (0, 0)) :: H) C) : Ops P F (EG.mk i (some d) none false (.bsl T z n parts) :: es) l H C := Ops.bsl (fun _ a => getParts_sound a hp) hb k

def optG (l : Fr) (x : Option Operand) (d : Nat) : Option Nat :=
  match x with
  | none => some d
  | some x => match get l x with
    | some (.int _ i) => if 0 ≤ i then some i.toNat else none
    | _ => none

theorem optG_sound {ρ : Operand → Value} (a : Agrees l ρ) {x : Option Operand} {d n : Nat} (h : optG l x d = some n) : optN ρ x d = some n := by
  cases x with
  | none => exact h
  | some x =>
    simp only [optG] at h
    split at h
    · rename_i k i e; simp only [optN, a _ _ e]; exact h
    · cases h

/-- a piece of a slice; where nothing is left of it its address says nothing -/
theorem Ops.slS {x : Operand} {s : Nat} {lo hi : Option Operand} {b o n cp l1 h1 : Nat} (hx : get l x = some (.slice (some ⟨b, o, none⟩) n cp)) (hh : optG l hi n = some h1) (hl : optG l lo 0 = some l1)
    (h2 : l1 ≤ h1) (h3 : h1 ≤ cp) (k : ∀ a', (a' = some ⟨b, o + l1 * s, none⟩ ∨ h1 - l1 = 0) → Ops P F es ((d, .slice a' (h1 - l1) (cp - l1)) :: l) H C) : Ops P F (EG.mk i (some d) none c (.slS x s lo hi none) :: es) l H C := by
  refine Ops.any (v := .slice (if cp = l1 then some ⟨b, o, none⟩ else (some ⟨b, o, none⟩ : Option Addr).map (·.add (l1 * s))) (h1 - l1) (cp - l1)) (fun ρ w Q a _ q => ?_) (k _ ?_)
  · exact ⟨_, n, cp, l1, h1, cp, a _ _ hx, rfl, optG_sound a hh, optG_sound a hl, by simp, h2, h3, Nat.le_refl _, q⟩
  · by_cases e : cp = l1
    · right; omega
    · left; rw [if_neg e]; simp [add_mk]

/-- a piece of an array -/
theorem Ops.slA {x : Operand} {s n : Nat} {lo hi : Option Operand} {b o l1 h1 : Nat} (hx : get l x = some (.pointer (some ⟨b, o, none⟩))) (hh : optG l hi n = some h1) (hl : optG l lo 0 = some l1)
    (h2 : l1 ≤ h1) (h3 : h1 ≤ n) (k : ∀ a', (a' = some ⟨b, o + l1 * s, none⟩ ∨ h1 - l1 = 0) → Ops P F es ((d, .slice a' (h1 - l1) (n - l1)) :: l) H C) : Ops P F (EG.mk i (some d) none c (.slA x n s lo hi none) :: es) l H C := by
  refine Ops.any (v := .slice (some (if n = l1 then ⟨b, o, none⟩ else (⟨b, o, none⟩ : Addr).add (l1 * s))) (h1 - l1) (n - l1)) (fun ρ w Q a _ q => ?_) (k _ ?_)
  · exact ⟨_, l1, h1, n, a _ _ hx, rfl, optG_sound a hh, optG_sound a hl, by simp, h2, h3, Nat.le_refl _, q⟩
  · by_cases e : n = l1
    · right; omega
    · left; rw [if_neg e, add_mk]
end
end Eng
end Go.Proofs.Ytbhlolmglieehaa
