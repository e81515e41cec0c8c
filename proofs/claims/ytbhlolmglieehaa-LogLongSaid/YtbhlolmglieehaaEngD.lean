/- The operations with their types resolved, what each asks and gives, and that this is what the model does. -/
import Derived.Test.YtbhlolmglieehaaEngC
set_option linter.unusedSimpArgs false
set_option linter.unusedVariables false
namespace Go.Proofs.Ytbhlolmglieehaa
namespace Eng

inductive EOp where
  | mv (x : Operand)
  | pick (c a b : Operand)
  | nilc (x : Operand)
  | off (x : Operand) (k : Nat)
  | ld1 (x : Operand)
  | ldn (x : Operand) (n : Nat)
  | st (x y : Operand) (n : Nat)
  | box (x : Operand) (T : TypeId)
  | alloc (z : List Value) (T : TypeId)
  | bin (op : BinOp) (x y : Operand)
  | eqv (d : TypeDesc) (neg : Bool) (x y : Operand)
  | eqa (neg : Bool) (T : TypeId) (k : IntKind) (n : Nat) (x y : Operand)
  | un (op : UnOp) (x : Operand)
  | cvI (k : IntKind) (x : Operand)
  | cvLit (x : Operand)
  | cvSB (T : TypeId) (x : Operand)
  | cvBS (x : Operand)
  | cvSS (x : Operand)
  | len (x : Operand)
  | lenT (x : Operand)
  | lenm (x : Operand)
  | fld (x : Operand) (off : Nat) (n : Option Nat)
  | ext (x : Operand) (i : Nat)
  | ixS (x i : Operand) (s : Nat)
  | ixA (x i : Operand) (len s : Nat)
  | idS (x i : Operand)
  | idA (x i : Operand) (len s : Nat) (n : Option Nat)
  | build (z : List Value) (parts : List (Nat × Nat × Operand))
  | bsl (T : TypeId) (z : List Value) (len : Nat) (parts : List (Nat × Nat × Operand))
  | slS (x : Operand) (s : Nat) (lo hi mx : Option Operand)
  | slA (x : Operand) (n s : Nat) (lo hi mx : Option Operand)
  | slT (x : Operand) (lo hi : Option Operand)
  | mks (T : TypeId) (z : List Value) (bytes : Nat) (l c : Operand)
  | call (g : FuncId) (args : Array Operand)
  | callv (f : Operand) (args : Array Operand)
  | app (T : TypeId) (z : List Value) (bytes : Nat) (x y : Operand)
  | cpy (s : Nat) (x y : Operand)
  | mx2 (x y : Operand)
  | mn2 (x y : Operand)
  | mkf (fn : Fn) (first captured : Array Operand)
  | mki (T : TypeId) (x : Operand)
  | raw (o : Op) (T : TypeId)
  deriving Inhabited

def vcells : Value → List Value
  | .agg cs => cs.toList
  | v => [v]

theorem vcells_eq (v : Value) : v.cells = (vcells v).toArray := by cases v <;> rfl

/-- a new state of cells, a part put in its place -/
def buildL : List Value → List (Nat × Nat × Value) → Option (List Value)
  | cs, [] => some cs
  | cs, (o, s, v) :: r => if (vcells v).length = s ∧ o + s ≤ cs.length then buildL (cs.take o ++ vcells v ++ cs.drop (o + s)) r else none

def zerosL (z : List Value) (n : Nat) : List Value := (List.replicate n z).flatten

def optN (ρ : Operand → Value) (x : Option Operand) (d : Nat) : Option Nat :=
  match x with
  | none => some d
  | some x => match ρ x with
    | .int _ i => if 0 ≤ i then some i.toNat else none
    | _ => none

def binVal (op : BinOp) : Value → Value → Option Value
  | .int k a, .int k' b =>
    match op with
    | .shl => if b < 0 then none else some (.int k (k.wrap (a * 2 ^ (min b.toNat k.bits))))
    | .shr => if b < 0 then none else some (.int k (a.fdiv (2 ^ (min b.toNat k.bits))))
    | .add => if k = k' then some (.int k (k.wrap (a + b))) else none
    | .sub => if k = k' then some (.int k (k.wrap (a - b))) else none
    | .mul => if k = k' then some (.int k (k.wrap (a * b))) else none
    | .quo => if k = k' then (if b = 0 then none else some (.int k (k.wrap (a.tdiv b)))) else none
    | .rem => if k = k' then (if b = 0 then none else some (.int k (a.tmod b))) else none
    | .and => if k = k' then some (.int k (k.wrap (BitVec.ofInt k.bits a &&& BitVec.ofInt k.bits b).toNat)) else none
    | .or => if k = k' then some (.int k (k.wrap (BitVec.ofInt k.bits a ||| BitVec.ofInt k.bits b).toNat)) else none
    | .xor => if k = k' then some (.int k (k.wrap (BitVec.ofInt k.bits a ^^^ BitVec.ofInt k.bits b).toNat)) else none
    | .andNot => if k = k' then some (.int k (k.wrap (BitVec.ofInt k.bits a &&& ~~~ (BitVec.ofInt k.bits b)).toNat)) else none
    | .eql => if k = k' then some (.bool (decide (a = b))) else none
    | .neq => if k = k' then some (.bool (!decide (a = b))) else none
    | .lss => if k = k' then some (.bool (decide (a < b))) else none
    | .leq => if k = k' then some (.bool (decide (a ≤ b))) else none
    | .gtr => if k = k' then some (.bool (decide (b < a))) else none
    | .geq => if k = k' then some (.bool (decide (b ≤ a))) else none
  | .string a, .string b =>
    match op with
    | .add => if ((a.size + b.size : Nat) : Int) > IntKind.i64.max then none else some (.string (a ++ b))
    | .eql => some (.bool (a.toList == b.toList))
    | .neq => some (.bool !(a.toList == b.toList))
    | .lss => some (.bool (Op.bytesLess a.toList b.toList))
    | .leq => some (.bool (Op.bytesLess a.toList b.toList || a.toList == b.toList))
    | .gtr => some (.bool !(Op.bytesLess a.toList b.toList || a.toList == b.toList))
    | .geq => some (.bool !(Op.bytesLess a.toList b.toList))
    | _ => none
  | _, _ => none

def eqVal : TypeDesc → Value → Value → Option Bool
  | .bool, .bool a, .bool b => some (a == b)
  | .pointer _, .pointer none, .pointer b => some b.isNone
  | .pointer _, .pointer (some _), .pointer none => some false
  | .slice _, .slice none _ _, .slice b _ _ => some b.isNone
  | .slice _, .slice (some _) _ _, .slice none _ _ => some false
  | .map _ _, .map none, .map b => some b.isNone
  | .map _ _, .map (some _), .map none => some false
  | .func _ _ _, .nilFunc, .nilFunc => some true
  | .func _ _ _, .nilFunc, .func _ _ _ => some false
  | .func _ _ _, .func _ _ _, .nilFunc => some false
  | .interface _, .nilIface, .iface _ _ => some false
  | .interface _, .iface _ _, .nilIface => some false
  | _, _, _ => none

def unVal : UnOp → Value → Option Value
  | .neg, .int k n => some (.int k (k.wrap (0 - n)))
  | .xor, .int k n => some (.int k (k.wrap (BitVec.ofInt k.bits (if k.signed then -1 else k.max) ^^^ BitVec.ofInt k.bits n).toNat))
  | .not, .bool b => some (.bool !b)
  | _, _ => none

/-- the cells that a slice or a string shows in a world -/
def shows (w : World) (s n : Nat) (v : Value) (xs : List Value) : Prop :=
  match v with
  | .slice none _ _ => xs = []
  | .slice (some a) _ _ => (n * s = 0 ∧ xs = []) ∨ (a.spot = none ∧ ∃ L T fz, w.heap[a.block]? = some (.cells (List.toArray L) T fz) ∧ a.off + n * s ≤ L.length ∧ xs = (L.drop a.off).take (n * s))
  | .string b => xs = (b.data.toList.take n).map fun x => Value.int .u8 x.toNat
  | _ => False

def lenV : Value → Option Nat
  | .slice _ n _ => some n
  | .string s => some s.size
  | _ => none

/-- What an operation asks of values and world, and gives to Q. -/
def EOp.wp (P : Program) (ρ : Operand → Value) (w : World) (Q : Next → World → Prop) : EOp → Prop
  | .mv x => Q (.value (ρ x)) w
  | .pick c a b => ∃ t, ρ c = .bool t ∧ Q (.value (if t then ρ a else ρ b)) w
  | .nilc x => ∃ a, ρ x = .pointer (some a) ∧ Q (.value (.pointer (some a))) w
  | .off x k => ∃ a, ρ x = .pointer (some a) ∧ Q (.value (.pointer (some (a.add k)))) w
  | .ld1 x => ∃ b o L T fz v, ρ x = .pointer (some ⟨b, o, none⟩) ∧ w.heap[b]? = some (.cells (List.toArray L) T fz) ∧ L[o]? = some v ∧ Q (.value v) w
  | .ldn x n => ∃ b o L T fz, ρ x = .pointer (some ⟨b, o, none⟩) ∧ w.heap[b]? = some (.cells (List.toArray L) T fz) ∧ o + n ≤ L.length ∧
      Q (.value (.agg ((L.drop o).take n).toArray)) w
  | .st x y n => ∃ b o L T fz vs, ρ x = .pointer (some ⟨b, o, none⟩) ∧ w.heap[b]? = some (.cells (List.toArray L) T fz) ∧ vcells (ρ y) = vs ∧ vs.length = n ∧ vs ≠ [] ∧ oneCells vs ∧
      o + n ≤ L.length ∧ (∀ j, o ≤ j → j < o + n → (decide (fz.1 ≤ j) && decide (j < fz.2)) = false) ∧
      Q .skip (setBlk w b (.cells (L.take o ++ vs ++ L.drop (o + n)).toArray T fz))
  | .box x T => Q (.value (.pointer (some ⟨w.heap.size, 0, none⟩))) (newBlk w (.cells (vcells (ρ x)).toArray T))
  | .alloc z T => Q (.value (.pointer (some ⟨w.heap.size, 0, none⟩))) (newBlk w (.cells z.toArray T))
  | .bin op x y => ∃ v, binVal op (ρ x) (ρ y) = some v ∧ Q (.value v) w
  | .eqv d neg x y => ∃ t, eqVal d (ρ x) (ρ y) = some t ∧ Q (.value (.bool (if neg then !t else t))) w
  | .un op x => ∃ v, unVal op (ρ x) = some v ∧ Q (.value v) w
  | .cvI k x => ∃ k' n, ρ x = .int k' n ∧ Q (.value (.int k (k.wrap n))) w
  | .cvSS x => ∃ s, ρ x = .string s ∧ Q (.value (.string s)) w
  | .len x => ∃ a n c, ρ x = .slice a n c ∧ Q (.value (.int .i64 n)) w
  | .lenT x => ∃ s, ρ x = .string s ∧ Q (.value (.int .i64 s.size)) w
  | .fld x o n => ∃ cs, ρ x = .agg (List.toArray cs) ∧ (match n with
      | none => ∃ v, cs[o]? = some v ∧ Q (.value v) w
      | some n => Q (.value (.agg ((cs.drop o).take n).toArray)) w)
  | .ext x i => ∃ vs v, ρ x = .tuple vs ∧ vs[i]? = some v ∧ Q (.value v) w
  | .ixS x i s => ∃ a n c k j, ρ x = .slice (some a) n c ∧ ρ i = .int k j ∧ 0 ≤ j ∧ j < (n : Int) ∧ Q (.value (.pointer (some (a.add (j.toNat * s))))) w
  | .ixA x i n s => ∃ a k j, ρ x = .pointer (some a) ∧ ρ i = .int k j ∧ 0 ≤ j ∧ j < (n : Int) ∧ Q (.value (.pointer (some (a.add (j.toNat * s))))) w
  | .idS x i => ∃ b k j c, ρ x = .string b ∧ ρ i = .int k j ∧ 0 ≤ j ∧ b[j.toNat]? = some c ∧ Q (.value (.int .u8 c.toNat)) w
  | .idA x i n s m => ∃ cs k j, ρ x = .agg (List.toArray cs) ∧ ρ i = .int k j ∧ 0 ≤ j ∧ j < (n : Int) ∧ (match m with
      | none => ∃ v, cs[j.toNat * s]? = some v ∧ Q (.value v) w
      | some m => Q (.value (.agg ((cs.drop (j.toNat * s)).take m).toArray)) w)
  | .build z parts => ∃ cs, buildL z (parts.map fun p => (p.1, p.2.1, ρ p.2.2)) = some cs ∧ Q (.value (.agg cs.toArray)) w
  | .bsl T z n parts => ∃ cs, buildL z (parts.map fun p => (p.1, p.2.1, ρ p.2.2)) = some cs ∧
      Q (.value (.slice (some ⟨w.heap.size, 0, none⟩) n n)) (newBlk w (.cells cs.toArray T))
  | .slS x s lo hi mx => ∃ a len cap l h m, ρ x = .slice a len cap ∧ optN ρ mx cap = some m ∧ optN ρ hi len = some h ∧ optN ρ lo 0 = some l ∧ (mx.isSome = true → hi.isSome = true) ∧
      l ≤ h ∧ h ≤ m ∧ m ≤ cap ∧ Q (.value (.slice (if m = l then a else a.map (·.add (l * s))) (h - l) (m - l))) w
  | .slA x n s lo hi mx => ∃ a l h m, ρ x = .pointer (some a) ∧ optN ρ mx n = some m ∧ optN ρ hi n = some h ∧ optN ρ lo 0 = some l ∧ (mx.isSome = true → hi.isSome = true) ∧
      l ≤ h ∧ h ≤ m ∧ m ≤ n ∧ Q (.value (.slice (some (if m = l then a else a.add (l * s))) (h - l) (m - l))) w
  | .slT x lo hi => ∃ b l h, ρ x = .string b ∧ optN ρ hi b.size = some h ∧ optN ρ lo 0 = some l ∧ l ≤ h ∧ h ≤ b.size ∧ Q (.value (.string (b.extract l h))) w
  | .mks T z bytes l c => ∃ k k' n m, ρ l = .int k n ∧ ρ c = .int k' m ∧ 0 ≤ n ∧ n ≤ m ∧ (bytes : Int) * m ≤ 2 ^ 48 ∧
      Q (.value (.slice (some ⟨w.heap.size, 0, none⟩) n.toNat m.toNat)) (newBlk w (.cells (zerosL z m.toNat).toArray T))
  | .call g args => Q (.enter g (args.map ρ)) w
  | .callv f args => ∃ g cap, ρ f = .func (.func g) #[] cap ∧ (∃ fn, P.funcs[g]? = some fn ∧ fn.body.isSome = true ∧ (fn.name == "runtime.NumGoroutine") = false) ∧ Q (.enter g (args.map ρ ++ cap)) w
  | .app T z bytes x y => ∃ base sLen sCap n xs, ρ x = .slice base sLen sCap ∧ lenV (ρ y) = some n ∧ shows w z.length n (ρ y) xs ∧
      (if sLen + n ≤ sCap then
        match base with
        | none => Q (.value (.slice none (sLen + n) sCap)) w
        | some a => a.spot = none ∧ (if xs = [] then Q (.value (.slice base (sLen + n) sCap)) w else
          ∃ L T' fz, w.heap[a.block]? = some (.cells (List.toArray L) T' fz) ∧ oneCells xs ∧ a.off + sLen * z.length + xs.length ≤ L.length ∧
            (∀ j, a.off + sLen * z.length ≤ j → j < a.off + sLen * z.length + xs.length → (decide (fz.1 ≤ j) && decide (j < fz.2)) = false) ∧
            Q (.value (.slice base (sLen + n) sCap)) (setBlk w a.block (.cells (L.take (a.off + sLen * z.length) ++ xs ++ L.drop (a.off + sLen * z.length + xs.length)).toArray T' fz)))
      else ∃ old, shows w z.length sLen (ρ x) old ∧ (2 * (sLen + n) + 1024) * bytes ≤ 2 ^ 48 ∧
        ∀ c, sLen + n ≤ c → Q (.value (.slice (some ⟨w.heap.size, 0, none⟩) (sLen + n) c))
          (newBlk { w with drawn := w.drawn + 1 } (.cells (old ++ xs ++ zerosL z (c - (sLen + n))).toArray T)))
  | .cpy s x y => ∃ base dLen cap n xs, ρ x = .slice base dLen cap ∧ lenV (ρ y) = some n ∧ shows w s (Nat.min n dLen) (ρ y) xs ∧
      (match base with
       | none => Q (.value (.int .i64 (Nat.min n dLen : Nat))) w
       | some a => a.spot = none ∧ (if xs = [] then Q (.value (.int .i64 (Nat.min n dLen : Nat))) w else
          ∃ L T' fz, w.heap[a.block]? = some (.cells (List.toArray L) T' fz) ∧ oneCells xs ∧ a.off + xs.length ≤ L.length ∧
            (∀ j, a.off ≤ j → j < a.off + xs.length → (decide (fz.1 ≤ j) && decide (j < fz.2)) = false) ∧
            Q (.value (.int .i64 (Nat.min n dLen : Nat))) (setBlk w a.block (.cells (L.take a.off ++ xs ++ L.drop (a.off + xs.length)).toArray T' fz))))
  | .mx2 x y => ∃ k k' a b, ρ x = .int k a ∧ ρ y = .int k' b ∧ Q (.value (.int k (if b > a then b else a))) w
  | .mn2 x y => ∃ k k' a b, ρ x = .int k a ∧ ρ y = .int k' b ∧ Q (.value (.int k (if b < a then b else a))) w
  | .mkf fn first cap => Q (.value (.func fn (first.map ρ) (cap.map ρ))) w
  | .mki T x => Q (.value (.iface T (ρ x))) w
  | .cvLit x => ∃ b n c L T fz, ρ x = .slice (some ⟨b, 0, none⟩) n c ∧ w.heap[b]? = some (.cells (List.toArray L) T fz) ∧ fz = (0, 0) ∧
      Q (.value (ρ x)) (setBlk w b (.cells L.toArray T (L.length, L.length + 1)))
  | .cvSB T x => ∃ s, ρ x = .string s ∧ ∀ c, s.size ≤ c → Q (.value (.slice (some ⟨w.heap.size, 0, none⟩) s.size c))
      (newBlk { w with drawn := w.drawn + 1 } (.cells ((s.data.toList.map fun (b : UInt8) => Value.int .u8 b.toNat) ++ List.replicate (c - s.size) (Value.int .u8 0)).toArray T (c, c + 1)))
  | .cvBS x => ∃ (a : Option Addr) (c : Nat) (bs : List UInt8), ρ x = .slice a bs.length c ∧ shows w 1 bs.length (ρ x) (bs.map fun b => Value.int .u8 b.toNat) ∧ Q (.value (.string ⟨bs.toArray⟩)) w
  | .lenm x => (ρ x = .map none ∧ Q (.value (.int .i64 0)) w) ∨ ∃ r es t, ρ x = .map (some r) ∧ w.heap[r]? = some (.map es t) ∧ Q (.value (.int .i64 es.size)) w
  | .eqa neg _ k n x y => ∃ (xs ys : List Int), ρ x = .agg (xs.map (Value.int k)).toArray ∧ ρ y = .agg (ys.map (Value.int k)).toArray ∧ xs.length = n ∧ ys.length = n ∧
      Q (.value (.bool (if neg then !(xs == ys) else xs == ys))) w
  | .raw o T => ∃ r w', (execOp ρ { (default : Oper) with op := o, type := T }).run P w = .ok r w' ∧ Q r w'

end Eng
end Go.Proofs.Ytbhlolmglieehaa
