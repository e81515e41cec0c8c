/- Frames, code with its operations resolved, and the two judgements: of operations (Ops) and of what is to do (Run). -/
import Derived.Test.YtbhlolmglieehaaEngK
set_option linter.unusedSimpArgs false
set_option linter.unusedVariables false
namespace Go.Proofs.Ytbhlolmglieehaa
namespace Eng

abbrev Fr := List (Nat × Value)

def look : Fr → Nat → Option Value
  | [], _ => none
  | (k, v) :: r, t => bif Nat.beq k t then some v else look r t

def get (l : Fr) : Operand → Option Value
  | .tmp t => look l t
  | .const v => some v
  | .global g => some (.pointer (some ⟨g, 0, none⟩))
  | .func f => some (.func (.func f) #[] #[])

structure FrOk (n : Nat) (l : Fr) (a : Act) : Prop where
  defers : a.defers = []
  size : a.tmps.size = n
  has : ∀ t v, look l t = some v → a.tmps[t]? = some v

def Agrees (l : Fr) (ρ : Operand → Value) : Prop := ∀ x v, get l x = some v → ρ x = v

theorem FrOk.agrees {n : Nat} {l : Fr} {a : Act} (h : FrOk n l a) : Agrees l a.eval := by
  intro x v e
  cases x with
  | tmp t => have := h.has t v e; simp [Act.eval, Array.getD_eq_getD_getElem?, this]
  | const c => cases e; rfl
  | global g => cases e; rfl
  | func f => cases e; rfl

theorem look_cons (k : Nat) (v : Value) (l : Fr) (t : Nat) : look ((k, v) :: l) t = if k = t then some v else look l t := by
  simp only [look]
  by_cases h : k = t
  · subst h; simp
  · rw [if_neg h]
    have : Nat.beq k t = false := by
      cases hb : Nat.beq k t with
      | false => rfl
      | true => exact absurd (Nat.eq_of_beq_eq_true hb) h
    rw [this]; rfl

theorem FrOk.put {n : Nat} {l : Fr} {a : Act} (h : FrOk n l a) {d : Nat} (hd : d < n) (v : Value) : FrOk n ((d, v) :: l) (a.put (some d) v) := by
  refine ⟨h.defers, by simp [Act.put, h.size], fun t u e => ?_⟩
  rw [look_cons] at e
  simp only [Act.put, Array.getElem?_setIfInBounds]
  by_cases hk : d = t
  · rw [if_pos hk] at e ⊢
    rw [if_pos (by rw [h.size]; exact hd)]; exact e
  · rw [if_neg hk] at e ⊢; exact h.has t u e

def FrEq (l l' : Fr) : Prop := ∀ t, look l t = look l' t
theorem FrOk.eq {n : Nat} {l l' : Fr} {a : Act} (h : FrOk n l a) (e : FrEq l l') : FrOk n l' a :=
  ⟨h.defers, h.size, fun t v x => h.has t v (by rw [e t]; exact x)⟩

/-- a frame of which less is known -/
def FrSub (l l' : Fr) : Prop := ∀ t v, look l' t = some v → look l t = some v
theorem FrOk.sub {n : Nat} {l l' : Fr} {a : Act} (h : FrOk n l a) (e : FrSub l l') : FrOk n l' a :=
  ⟨h.defers, h.size, fun t v x => h.has t v (e t v x)⟩

structure EG where
  idx : Nat
  dst : Option Nat
  guard : Option (Nat × Bool)
  calm : Bool
  op : EOp
  deriving Inhabited

def EG.put (e : EG) (l : Fr) (v : Value) : Fr := match e.dst with
  | some d => (d, v) :: l
  | none => l

def asB : Value → Option Bool
  | .bool b => some b
  | _ => none

section
variable (P : Program)

def CalmAt (F : Hp) (op : EOp) (l : Fr) (v : Value) : Prop :=
  ∀ w ρ, Agrees l ρ → (∀ b o, F b = some o → w.heap[b]? = some o) → op.wp P ρ w fun r w' => r = .value v ∧ w' = w

def Post (F : Hp) (w : World) (R : Value → List HA → Prop) : Next → World → Prop
  | .value v, w' => ∃ M' h', R v M' ∧ seps M' h' ∧ Fits F h' w' ∧ Keeps w w'
  | .skip, w' => ∃ M' h', R undef M' ∧ seps M' h' ∧ Fits F h' w' ∧ Keeps w w'
  | .enter g args, w' => Calls P g args w' fun e w2 => ∃ v M' h', e = .returned v ∧ R v M' ∧ seps M' h' ∧ Fits F h' w2 ∧ Keeps w w2
  | _, _ => False

def BusyAt (F : Hp) (op : EOp) (l : Fr) (M : List HA) (R : Value → List HA → Prop) : Prop :=
  ∀ w h ρ, Agrees l ρ → seps M h → Fits F h w → op.wp P ρ w (Post P F w R)

/-- the body of an operation that is wanted -/
def Body (F : Hp) (e : EG) (l : Fr) (H : List HA) (next : Value → List HA → Prop) : Prop :=
  if e.calm = true then ∃ v, CalmAt P F e.op l v ∧ next v H else ∃ R, BusyAt P F e.op l H R ∧ ∀ v H', R v H' → next v H'

/-- Operations one behind the other; those that are calm ask the frame alone. -/
def Ops (F : Hp) : List EG → Fr → List HA → (Fr → List HA → Prop) → Prop
  | [], l, H, C => C l H
  | e :: es, l, H, C =>
    match e.guard with
    | none => Body P F e l H fun v H' => Ops F es (e.put l v) H' C
    | some (s, want) => ∃ v, look l s = some v ∧
        (asB v = some want → Body P F e l H fun v H' => Ops F es (e.put l v) H' C) ∧ (asB v ≠ some want → Ops F es (e.put l undef) H C)

/-- Groups of operations, each wholly behind the one ahead of it. -/
def Segs (F : Hp) : List (List EG) → Fr → List HA → (Fr → List HA → Prop) → Prop
  | [], l, H, C => C l H
  | es :: r, l, H, C => (Ops P F es l H fun l' H' => Segs F r l' H' C) ∨
      ∃ S M, Take H S M ∧ ∀ F', Ext F F' → Known S F' → Ops P F' es l M fun l' M' => Segs F r l' (S ++ M') C
end

inductive EC where
  | skip
  | seq (a b : EC)
  | cond (c : Operand) (a b : EC)
  | block (id : Nat) (b : EC)
  | loop (b : EC)
  | exit (id : Nat)
  | ret
  | reg (segs : List (List EG))
  deriving Inhabited

/-- masks of what stands ahead of each -/
def masks : List (List Nat) → List Nat → List Nat
  | [], acc => acc
  | es :: r, acc => masks r (acc ++ [es.foldl (fun s e => s ||| (2 ^ e ||| acc.getD e 0)) 0])

def edges (o : Oper) : List Nat := (o.after.toList.filter (Region.binds .any)).map (·.on)

def calmKind : EOp → Bool
  | .mv _ | .pick .. | .nilc _ | .off .. | .ld1 _ | .ldn .. | .cvBS _ | .bin .. | .eqv .. | .eqa .. | .un .. | .cvI .. | .cvSS _ | .len _ | .lenT _ | .fld .. | .ext .. | .ixS .. | .ixA .. | .idS .. | .idA .. | .build ..
  | .slS .. | .slA .. | .slT .. | .mx2 .. | .mn2 .. | .mkf .. | .mki .. => true
  | _ => false

/-- calm, and asks nothing of the world -/
def pureKind : EOp → Bool
  | .ld1 _ | .ldn .. | .cvBS _ => false
  | op => calmKind op

def tmpsOf (xs : Array Operand) : List Nat := xs.toList.filterMap fun | .tmp t => some t | _ => none

/-- all temporaries that an operation reads, and its guard's -/
def readsOf (o : Oper) (guard : Option (Nat × Bool)) : List Nat := tmpsOf o.op.operands ++ (guard.map (·.1)).toList

def dstOk (n : Nat) : Option Nat → Bool
  | some d => decide (d < n)
  | none => true

def compileG (P : Program) (n : Nat) (ops : Array Oper) (i : Nat) (o : Oper) : Option EG :=
  match compileOp P o.op o.type with
  | none => none
  | some op =>
    if dstOk n o.dst = true then
      match o.guard with
      | none => some ⟨i, o.dst, none, false, op⟩
      | some (j, want) => match (ops[j]?).bind (·.dst) with
        | some s => some ⟨i, o.dst, some (s, want), false, op⟩
        | none => none
    else none

def pickNext (ready pure calm : Nat → Bool) (pending : List Nat) : Option Nat :=
  match pending.find? fun i => pure i && ready i with
  | some i => some i
  | none => match pending.find? fun i => calm i && ready i with
    | some i => some i
    | none => pending.find? ready

def orderOf (ms : List Nat) (pure calm : Nat → Bool) : Nat → List Nat → Nat → List Nat
  | 0, _, _ => []
  | f + 1, pending, done => match pickNext (fun i => ms.getD i 0 ||| done == done) pure calm pending with
    | some i => i :: orderOf ms pure calm f (pending.filter (· != i)) (done ||| 2 ^ i)
    | none => []

/-- cut into groups, each behind all of the one ahead of it that asks or turns the world -/
def cutSegs (ms : List Nat) (imp : Nat → Bool) : List Nat → List Nat → Nat → List (List Nat)
  | [], [], _ => []
  | [], cur, _ => [cur]
  | e :: r, cur, done =>
    if cur.any imp ∧ (e :: r).all (fun x => ms.getD x 0 ||| done == ms.getD x 0) then cur :: cutSegs ms imp r [e] (if imp e then done ||| 2 ^ e else done)
    else cutSegs ms imp r (cur ++ [e]) (if imp e then done ||| 2 ^ e else done)

end Eng
end Go.Proofs.Ytbhlolmglieehaa
