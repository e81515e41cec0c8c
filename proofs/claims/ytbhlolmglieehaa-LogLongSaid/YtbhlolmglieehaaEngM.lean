/- Regions that draw their order: every order comes to what the operations say one behind the other. -/
import Derived.Test.YtbhlolmglieehaaEngL
set_option linter.unusedSimpArgs false
set_option linter.unusedVariables false
namespace Go.Proofs.Ytbhlolmglieehaa
namespace Eng

def EOp.args : EOp → List Operand
  | .mv x | .nilc x | .off x _ | .ld1 x | .ldn x _ | .box x _ | .un _ x | .cvI _ x | .cvLit x | .cvSB _ x | .cvBS x | .cvSS x | .len x | .lenT x | .lenm x | .fld x _ _ | .ext x _ | .mki _ x => [x]
  | .pick c a b => [c, a, b]
  | .st x y _ | .bin _ x y | .eqv _ _ x y | .eqa _ _ _ _ x y | .ixS x y _ | .ixA x y _ _ | .idS x y | .idA x y _ _ _ | .mks _ _ _ x y | .app _ _ _ x y | .cpy _ x y | .mx2 x y | .mn2 x y => [x, y]
  | .alloc _ _ | .raw _ _ => []
  | .build _ ps | .bsl _ _ _ ps => ps.map (·.2.2)
  | .slS x _ lo hi mx | .slA x _ _ lo hi mx => x :: (lo.toList ++ hi.toList ++ mx.toList)
  | .slT x lo hi => x :: (lo.toList ++ hi.toList)
  | .call _ args => args.toList
  | .callv f args => f :: args.toList
  | .mkf _ a b => a.toList ++ b.toList

def notRaw : EOp → Bool
  | .raw _ _ => false
  | _ => true

theorem wp_congr {P : Program} {ρ ρ' : Operand → Value} {op : EOp} (hr : notRaw op = true) (h : ∀ x ∈ op.args, ρ x = ρ' x) {w : World} {Q : Next → World → Prop} (q : op.wp P ρ w Q) : op.wp P ρ' w Q := by
  have parts : ∀ ps : List (Nat × Nat × Operand), (∀ x ∈ ps.map (·.2.2), ρ x = ρ' x) → ps.map (fun p => (p.1, p.2.1, ρ p.2.2)) = ps.map (fun p => (p.1, p.2.1, ρ' p.2.2)) := by
    intro ps hp
    apply List.map_congr_left
    intro p hm
    rw [hp p.2.2 (List.mem_map.2 ⟨p, hm, rfl⟩)]
  have opt : ∀ (x : Option Operand) (d : Nat), (∀ y ∈ x.toList, ρ y = ρ' y) → optN ρ x d = optN ρ' x d := by
    intro x d hx
    cases x with
    | none => rfl
    | some y => simp only [optN]; rw [hx y (by simp)]
  have arr : ∀ a : Array Operand, (∀ x ∈ a.toList, ρ x = ρ' x) → a.map ρ = a.map ρ' := by
    intro a ha
    apply Array.map_congr_left
    intro x hx; exact ha x (by simpa using hx)
  cases op <;> simp only [EOp.args, List.mem_cons, List.not_mem_nil, or_false, forall_eq_or_imp, forall_eq, List.mem_append] at h
  case raw => cases hr
  case build z ps => simp only [EOp.wp] at q ⊢; rw [← parts ps h]; exact q
  case bsl T z n ps => simp only [EOp.wp] at q ⊢; rw [← parts ps h]; exact q
  case slS x s lo hi mx =>
    simp only [EOp.wp] at q ⊢
    obtain ⟨h1, h2⟩ := h
    rw [← opt lo _ (fun y hy => h2 y (.inl (.inl hy))), ← h1]
    obtain ⟨a, len, cap, l, h', m, e1, e2, e3, r⟩ := q
    exact ⟨a, len, cap, l, h', m, e1, by rw [← opt mx _ (fun y hy => h2 y (.inr hy))]; exact e2, by rw [← opt hi _ (fun y hy => h2 y (.inl (.inr hy)))]; exact e3, r⟩
  case slA x n s lo hi mx =>
    simp only [EOp.wp] at q ⊢
    obtain ⟨h1, h2⟩ := h
    rw [← opt lo _ (fun y hy => h2 y (.inl (.inl hy))), ← opt hi _ (fun y hy => h2 y (.inl (.inr hy))), ← opt mx _ (fun y hy => h2 y (.inr hy)), ← h1]
    exact q
  case slT x lo hi =>
    simp only [EOp.wp] at q ⊢
    obtain ⟨h1, h2⟩ := h
    obtain ⟨b, l, h', e1, e2, e3, r⟩ := q
    exact ⟨b, l, h', by rw [← h1]; exact e1, by rw [← opt hi _ (fun y hy => h2 y (.inr hy))]; exact e2, by rw [← opt lo _ (fun y hy => h2 y (.inl hy))]; exact e3, r⟩
  case call g args => simp only [EOp.wp] at q ⊢; rw [← arr args h]; exact q
  case callv f args =>
    simp only [EOp.wp] at q ⊢
    rw [← h.1]
    obtain ⟨g, cap, e1, e2, r⟩ := q
    exact ⟨g, cap, e1, e2, by rw [← arr args h.2]; exact r⟩
  case mkf fn a b =>
    simp only [EOp.wp] at q ⊢
    rw [← arr a (fun x hx => h x (.inl hx)), ← arr b (fun x hx => h x (.inr hx))]; exact q
  all_goals (simp only [EOp.wp] at q ⊢; first
    | exact q
    | (rw [← h]; exact q)
    | (rw [← h.1, ← h.2]; exact q)
    | (rw [← h.1, ← h.2.1, ← h.2.2]; exact q)
    | (simp only [← h]; exact q)
    | (simp only [← h.1, ← h.2]; exact q)
    | (simp only [← h.1, ← h.2.1, ← h.2.2]; exact q))

theorem agrees_switch {l l' : Fr} {ρ' : Operand → Value} {xs : List Operand} (hx : ∀ x ∈ xs, get l x = get l' x) (ha : Agrees l' ρ') : ∃ ρ, Agrees l ρ ∧ ∀ x ∈ xs, ρ x = ρ' x := by
  refine ⟨fun x => (get l x).getD (ρ' x), fun x v e => by simp [e], fun x hm => ?_⟩
  cases e : get l x with
  | none => simp [e]
  | some v =>
    have : get l' x = some v := by rw [← hx x hm]; exact e
    simp [e, ha x v this]

section
variable {P : Program} {F : Hp}

theorem CalmAt.switch {op : EOp} {l l' : Fr} {v : Value} (hr : notRaw op = true) (hx : ∀ x ∈ op.args, get l x = get l' x) (c : CalmAt P F op l v) : CalmAt P F op l' v := by
  intro w ρ' ha hF
  obtain ⟨ρ, h1, h2⟩ := agrees_switch hx ha
  exact wp_congr hr h2 (c w ρ h1 hF)

theorem BusyAt.switch {op : EOp} {l l' : Fr} {M : List HA} {R : Value → List HA → Prop} (hr : notRaw op = true) (hx : ∀ x ∈ op.args, get l x = get l' x) (c : BusyAt P F op l M R) : BusyAt P F op l' M R := by
  intro w h ρ' ha q f
  obtain ⟨ρ, h1, h2⟩ := agrees_switch hx ha
  exact wp_congr hr h2 (c w h ρ h1 q f)

theorem Body.switch {e : EG} {l l' : Fr} {H : List HA} {next next' : Value → List HA → Prop} (hr : notRaw e.op = true) (hx : ∀ x ∈ e.op.args, get l x = get l' x) (hn : ∀ v H', next v H' → next' v H')
    (b : Body P F e l H next) : Body P F e l' H next' := by
  unfold Body at b ⊢
  split at b
  · rename_i hc; rw [if_pos hc]
    obtain ⟨v, c, n⟩ := b
    exact ⟨v, c.switch hr hx, hn _ _ n⟩
  · rename_i hc; rw [if_neg hc]
    obtain ⟨R, c, n⟩ := b
    exact ⟨R, c.switch hr hx, fun v H' r => hn _ _ (n v H' r)⟩

theorem Body.mono {e : EG} {l : Fr} {H : List HA} {next next' : Value → List HA → Prop} (hn : ∀ v H', next v H' → next' v H')
    (b : Body P F e l H next) : Body P F e l H next' := by
  unfold Body at b ⊢
  split at b
  · rename_i hc; rw [if_pos hc]
    obtain ⟨v, c, n⟩ := b
    exact ⟨v, c, hn _ _ n⟩
  · rename_i hc; rw [if_neg hc]
    obtain ⟨R, c, n⟩ := b
    exact ⟨R, c, fun v H' r => hn _ _ (n v H' r)⟩

theorem get_eq {l l' : Fr} (h : FrEq l l') (x : Operand) : get l x = get l' x := by
  cases x <;> simp [get, h _]

theorem FrEq.refl (l : Fr) : FrEq l l := fun _ => rfl
theorem FrEq.cons {l l' : Fr} (h : FrEq l l') (d : Nat) (v : Value) : FrEq ((d, v) :: l) ((d, v) :: l') := fun t => by
  rw [look_cons, look_cons, h t]
theorem FrEq.put {l l' : Fr} (h : FrEq l l') (e : EG) (v : Value) : FrEq (e.put l v) (e.put l' v) := by
  unfold EG.put; split
  · exact h.cons _ _
  · exact h

/-- the continuation asks of the frame no more than what is looked up -/
def Respects (C : Fr → List HA → Prop) : Prop := ∀ l l' H, FrEq l l' → C l H → C l' H

theorem agrees_eq {l l' : Fr} (h : FrEq l l') {ρ : Operand → Value} (a : Agrees l' ρ) : Agrees l ρ := fun x v e => a x v (by rw [← get_eq h x]; exact e)

theorem Body.eq {e : EG} {l l' : Fr} {H : List HA} {next next' : Value → List HA → Prop} (h : FrEq l l') (hn : ∀ v H', next v H' → next' v H') (b : Body P F e l H next) : Body P F e l' H next' := by
  unfold Body at b ⊢
  split at b
  · rename_i hc; rw [if_pos hc]
    obtain ⟨v, c, n⟩ := b
    exact ⟨v, fun w ρ a f => c w ρ (agrees_eq h a) f, hn _ _ n⟩
  · rename_i hc; rw [if_neg hc]
    obtain ⟨R, c, n⟩ := b
    exact ⟨R, fun w hh ρ a q f => c w hh ρ (agrees_eq h a) q f, fun v H' r => hn _ _ (n v H' r)⟩

theorem Ops.eq {es : List EG} : ∀ {l l' : Fr} {H : List HA} {C C' : Fr → List HA → Prop}, (∀ l l' H, FrEq l l' → C l H → C' l' H) → FrEq l l' → Ops P F es l H C → Ops P F es l' H C' := by
  induction es with
  | nil => intro l l' H C C' hC he o; exact hC _ _ _ he o
  | cons e es ih =>
    intro l l' H C C' hC he o
    have step : ∀ {H'}, Body P F e l H' (fun v H2 => Ops P F es (e.put l v) H2 C) → Body P F e l' H' (fun v H2 => Ops P F es (e.put l' v) H2 C') :=
      Body.eq he (fun v H2 => ih hC (he.put e v))
    simp only [Ops] at o ⊢
    split at o
    · exact step o
    · rename_i s want _
      obtain ⟨v, hl, h1, h2⟩ := o
      exact ⟨v, by rw [← he s]; exact hl, fun x => step (h1 x), fun x => ih hC (he.put e undef) (h2 x)⟩

theorem Segs.eq : ∀ {segs : List (List EG)} {F : Hp} {l l' : Fr} {H : List HA} {C C' : Fr → List HA → Prop}, (∀ l l' H, FrEq l l' → C l H → C' l' H) → FrEq l l' → Segs P F segs l H C → Segs P F segs l' H C' := by
  intro segs
  induction segs with
  | nil => intro F l l' H C C' hC he o; exact hC _ _ _ he o
  | cons s segs ih =>
    intro F l l' H C C' hC he o
    rcases o with o | ⟨S, M, tk, body⟩
    · exact .inl (Ops.eq (fun l l' M' he' x => ih hC he' x) he o)
    · exact .inr ⟨S, M, tk, fun F' e k => Ops.eq (fun l l' M' he' x => ih hC he' x) he (body F' e k)⟩

/-- p may change places with q behind it -/
def indep (p q : EG) : Bool :=
  (match p.dst with
   | some d => !(q.op.args.any fun | .tmp t => t == d | _ => false) && !(q.guard.any (·.1 == d)) && !(q.dst == some d)
   | none => true) &&
  (match q.dst with
   | some d => !(p.op.args.any fun | .tmp t => t == d | _ => false) && !(p.guard.any (·.1 == d))
   | none => true)

theorem get_put {e : EG} {l : Fr} {v : Value} {x : Operand} (h : ∀ d, e.dst = some d → x ≠ .tmp d) : get (e.put l v) x = get l x := by
  unfold EG.put
  split
  · rename_i d hd
    cases x with
    | tmp t =>
      have : d ≠ t := fun e => h d hd (by rw [e])
      simp only [get, look_cons, if_neg this]
    | _ => rfl
  · rfl

theorem look_put {e : EG} {l : Fr} {v : Value} {t : Nat} (h : e.dst ≠ some t) : look (e.put l v) t = look l t := by
  unfold EG.put
  split
  · rename_i d hd
    have : d ≠ t := fun x => h (by rw [hd, x])
    rw [look_cons, if_neg this]
  · rfl

theorem put_swap {p q : EG} {l : Fr} {v u : Value} (h : ∀ d, p.dst = some d → q.dst ≠ some d) : FrEq (q.put (p.put l v) u) (p.put (q.put l u) v) := by
  intro t
  by_cases hp : p.dst = some t
  · have hq : q.dst ≠ some t := h t hp
    rw [look_put hq]
    simp [EG.put, hp, look_cons]
  · rw [look_put (e := p) hp]
    by_cases hq : q.dst = some t
    · simp [EG.put, hq, look_cons]
    · rw [look_put hq, look_put hq, look_put hp]

structure Indep (p q : EG) : Prop where
  args_q : ∀ d, p.dst = some d → ∀ x ∈ q.op.args, x ≠ .tmp d
  guard_q : ∀ s w, q.guard = some (s, w) → p.dst ≠ some s
  dst : ∀ d, p.dst = some d → q.dst ≠ some d
  args_p : ∀ d, q.dst = some d → ∀ x ∈ p.op.args, x ≠ .tmp d
  guard_p : ∀ s w, p.guard = some (s, w) → q.dst ≠ some s

theorem indep_sound {p q : EG} (h : indep p q = true) : Indep p q := by
  unfold indep at h
  rw [Bool.and_eq_true] at h
  obtain ⟨h1, h2⟩ := h
  constructor
  · intro d hd x hx e
    subst e
    rw [hd] at h1
    simp only [Bool.and_eq_true, Bool.not_eq_true'] at h1
    have := h1.1.1
    rw [List.any_eq_false] at this
    exact this _ hx (by simp)
  · intro s w hg e
    rw [e] at h1
    simp only [Bool.and_eq_true, Bool.not_eq_true'] at h1
    have := h1.1.2
    simp [hg] at this
  · intro d hd e
    rw [hd] at h1
    simp only [Bool.and_eq_true, Bool.not_eq_true'] at h1
    have := h1.2
    simp [e] at this
  · intro d hd x hx e
    subst e
    rw [hd] at h2
    simp only [Bool.and_eq_true, Bool.not_eq_true'] at h2
    have := h2.1
    rw [List.any_eq_false] at this
    exact this _ hx (by simp)
  · intro s w hg e
    rw [e] at h2
    simp only [Bool.and_eq_true, Bool.not_eq_true'] at h2
    have := h2.2
    simp [hg] at this

/-- what is asked of an operation and what stands behind it, with its guard -/
def One (P : Program) (F : Hp) (e : EG) (l : Fr) (H : List HA) (next : Value → List HA → Prop) : Prop :=
  match e.guard with
  | none => Body P F e l H next
  | some (s, want) => ∃ v, look l s = some v ∧ (asB v = some want → Body P F e l H next) ∧ (asB v ≠ some want → next undef H)

theorem Ops.cons_eq {e : EG} {es : List EG} {l : Fr} {H : List HA} {C : Fr → List HA → Prop} : Ops P F (e :: es) l H C = One P F e l H fun v H' => Ops P F es (e.put l v) H' C := by
  rfl

theorem One.mono {e : EG} {l : Fr} {H : List HA} {next next' : Value → List HA → Prop} (hn : ∀ v H', next v H' → next' v H') (o : One P F e l H next) : One P F e l H next' := by
  unfold One at o ⊢
  split at o
  · exact o.mono hn
  · obtain ⟨v, hl, h1, h2⟩ := o
    exact ⟨v, hl, fun x => (h1 x).mono hn, fun x => hn _ _ (h2 x)⟩

theorem One.switch {e : EG} {l l' : Fr} {H : List HA} {next next' : Value → List HA → Prop} (hr : notRaw e.op = true) (hx : ∀ x ∈ e.op.args, get l x = get l' x) (hg : ∀ s w, e.guard = some (s, w) → look l s = look l' s)
    (hn : ∀ v H', next v H' → next' v H') (o : One P F e l H next) : One P F e l' H next' := by
  unfold One at o ⊢
  split at o
  · exact o.switch hr hx hn
  · rename_i s want hgd
    obtain ⟨v, hl, h1, h2⟩ := o
    exact ⟨v, by rw [← hg s want hgd]; exact hl, fun x => (h1 x).switch hr hx hn, fun x => hn _ _ (h2 x)⟩

/-- a calm operation has one value and owns nothing: it commutes with whatever stands behind it -/
theorem One.calm {e : EG} (hc : e.calm = true) {l : Fr} {H : List HA} {next : Value → List HA → Prop} (o : One P F e l H next) :
    ∃ v, next v H ∧ ∀ H' (next' : Value → List HA → Prop), next' v H' → One P F e l H' next' := by
  unfold One at o
  split at o
  · rename_i hg
    unfold Body at o
    rw [if_pos hc] at o
    obtain ⟨v, c, n⟩ := o
    exact ⟨v, n, fun H' next' n' => by unfold One; rw [hg]; simp only [Body, if_pos hc]; exact ⟨v, c, n'⟩⟩
  · rename_i s want hg
    obtain ⟨u, hl, h1, h2⟩ := o
    by_cases hw : asB u = some want
    · have := h1 hw
      unfold Body at this
      rw [if_pos hc] at this
      obtain ⟨v, c, n⟩ := this
      exact ⟨v, n, fun H' next' n' => by unfold One; rw [hg]; exact ⟨u, hl, fun _ => by simp only [Body, if_pos hc]; exact ⟨v, c, n'⟩, fun x => absurd hw x⟩⟩
    · exact ⟨undef, h2 hw, fun H' next' n' => by unfold One; rw [hg]; exact ⟨u, hl, fun x => absurd x hw, fun _ => n'⟩⟩

theorem Ops.swap {p q : EG} {es : List EG} {l : Fr} {H : List HA} {C : Fr → List HA → Prop} (hc : p.calm = true) (hi : Indep p q) (hrp : notRaw p.op = true) (hrq : notRaw q.op = true)
    (hC : Respects C) (o : Ops P F (p :: q :: es) l H C) : Ops P F (q :: p :: es) l H C := by
  rw [Ops.cons_eq] at o ⊢
  obtain ⟨v, hq, hp⟩ := One.calm hc o
  rw [Ops.cons_eq] at hq
  refine One.switch hrq (fun x hx => get_put fun d hd => hi.args_q d hd x hx) (fun s w hg => look_put (hi.guard_q s w hg)) (fun u H' n => ?_) hq
  rw [Ops.cons_eq]
  have := hp H' (fun v' H2 => Ops P F es (q.put (p.put l v') u) H2 C) n
  refine One.switch hrp (fun x hx => (get_put fun d hd => hi.args_p d hd x hx).symm) (fun s w hg => (look_put (hi.guard_p s w hg)).symm) (fun v' H2 n' => ?_) this
  exact Ops.eq hC (put_swap hi.dst) n'

theorem Ops.mono {es : List EG} : ∀ {l : Fr} {H : List HA} {C C' : Fr → List HA → Prop}, (∀ l H, C l H → C' l H) → Ops P F es l H C → Ops P F es l H C' := by
  induction es with
  | nil => intro l H C C' h o; exact h _ _ o
  | cons e es ih => intro l H C C' h o; rw [Ops.cons_eq] at o ⊢; exact o.mono fun v H' => ih h

/-- an operation is taken to the front -/
theorem Ops.front {q : EG} {post : List EG} : ∀ {pre : List EG} {l : Fr} {H : List HA} {C : Fr → List HA → Prop},
    (∀ p ∈ pre, p.calm = true ∧ Indep p q ∧ notRaw p.op = true ∧ notRaw q.op = true) → Respects C → Ops P F (pre ++ q :: post) l H C → Ops P F (q :: (pre ++ post)) l H C := by
  intro pre
  induction pre with
  | nil => intro l H C _ _ o; exact o
  | cons p pre ih =>
    intro l H C hp hC o
    have ⟨hc, hi, hrp, hrq⟩ := hp p (.head _)
    have o2 : Ops P F (p :: q :: (pre ++ post)) l H C := by
      rw [List.cons_append, Ops.cons_eq] at o
      rw [Ops.cons_eq]
      exact o.mono fun v H' => ih (fun x hx => hp x (.tail _ hx)) hC
    exact Ops.swap hc hi hrp hrq hC o2


theorem pure_calm {op : EOp} (h : pureKind op = true) : calmKind op = true := by cases op <;> first | rfl | (cases h; done) | exact h
theorem calm_notRaw {op : EOp} (h : calmKind op = true) : notRaw op = true := by cases op <;> first | rfl | (cases h; done)

/-- what asks nothing of the world is the same in another -/
theorem pure_move {op : EOp} (hp : pureKind op = true) {ρ : Operand → Value} {v : Value} {w1 w2 : World} (h : op.wp P ρ w1 fun r w' => r = .value v ∧ w' = w1) : op.wp P ρ w2 fun r w' => r = .value v ∧ w' = w2 := by
  cases op <;> first | (simp [pureKind, calmKind] at hp; done) | skip
  case fld x o n => cases n <;> simpa only [EOp.wp, and_true] using h
  case idA x i l s n => cases n <;> simpa only [EOp.wp, and_true] using h
  all_goals simpa only [EOp.wp, and_true] using h

theorem CalmAt.move {op : EOp} (hp : pureKind op = true) {F F2 : Hp} {l : Fr} {v : Value} (hw : ∃ w : World, ∀ b o, F b = some o → w.heap[b]? = some o) (c : CalmAt P F op l v) : CalmAt P F2 op l v := by
  obtain ⟨w1, h1⟩ := hw
  intro w2 ρ a _
  exact pure_move hp (c w1 ρ a h1)

/-- operations that ask nothing of the world come to a frame, whatever is owned -/
theorem Ops.pure_run {L : List EG} : ∀ {F : Hp} {l : Fr} {H : List HA} {C : Fr → List HA → Prop}, (∀ e ∈ L, e.calm = true ∧ pureKind e.op = true) → (∃ w : World, ∀ b o, F b = some o → w.heap[b]? = some o) →
    Ops P F L l H C → ∃ l', C l' H ∧ ∀ F2 H2 C2, C2 l' H2 → Ops P F2 L l H2 C2 := by
  induction L with
  | nil => intro F l H C _ _ o; exact ⟨l, o, fun _ _ _ x => x⟩
  | cons e L ih =>
    intro F l H C hp hw o
    have ⟨hc, hk⟩ := hp e (.head _)
    have hp2 := fun x hx => hp x (List.mem_cons_of_mem _ hx)
    rw [Ops.cons_eq] at o
    unfold One at o
    split at o
    · rename_i hg
      unfold Body at o
      rw [if_pos hc] at o
      obtain ⟨v, c, n⟩ := o
      obtain ⟨l', h1, h2⟩ := ih hp2 hw n
      refine ⟨l', h1, fun F2 H2 C2 x => ?_⟩
      rw [Ops.cons_eq]; unfold One; rw [hg]; simp only [Body, if_pos hc]
      exact ⟨v, c.move hk hw, h2 F2 H2 C2 x⟩
    · rename_i s want hg
      obtain ⟨u, hl, h1, h2⟩ := o
      by_cases hu : asB u = some want
      · have o := h1 hu
        unfold Body at o
        rw [if_pos hc] at o
        obtain ⟨v, c, n⟩ := o
        obtain ⟨l', h3, h4⟩ := ih hp2 hw n
        refine ⟨l', h3, fun F2 H2 C2 x => ?_⟩
        rw [Ops.cons_eq]; unfold One; rw [hg]; simp only [Body, if_pos hc]
        exact ⟨u, hl, fun _ => ⟨v, c.move hk hw, h4 F2 H2 C2 x⟩, fun y => absurd hu y⟩
      · obtain ⟨l', h3, h4⟩ := ih hp2 hw (h2 hu)
        refine ⟨l', h3, fun F2 H2 C2 x => ?_⟩
        rw [Ops.cons_eq]; unfold One; rw [hg]
        exact ⟨u, hl, fun y => absurd y hu, fun _ => h4 F2 H2 C2 x⟩

theorem Ops.append {L1 L2 : List EG} : ∀ {l : Fr} {H : List HA} {C : Fr → List HA → Prop}, Ops P F (L1 ++ L2) l H C ↔ Ops P F L1 l H fun l' H' => Ops P F L2 l' H' C := by
  induction L1 with
  | nil => intro l H C; exact Iff.rfl
  | cons e L1 ih =>
    intro l H C
    rw [List.cons_append, Ops.cons_eq, Ops.cons_eq]
    exact ⟨fun o => o.mono fun v H' => ih.1, fun o => o.mono fun v H' => ih.2⟩
end
end Eng
end Go.Proofs.Ytbhlolmglieehaa
