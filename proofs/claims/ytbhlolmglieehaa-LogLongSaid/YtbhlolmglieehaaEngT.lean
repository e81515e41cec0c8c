/- Rules for arithmetic on numbers in their range, and for bits. -/
import Derived.Test.YtbhlolmglieehaaEngS
set_option linter.unusedSimpArgs false
set_option linter.unusedVariables false
namespace Go.Proofs.Ytbhlolmglieehaa
namespace Eng

theorem wrap_nat {k : IntKind} (hs : k.signed = false) {n : Nat} (h : n < 2 ^ k.bits) : k.wrap (n : Int) = (n : Int) := by
  unfold IntKind.wrap
  rw [hs]
  simp only [Bool.false_and, Bool.false_eq_true, if_false]
  have : ((2 : Int) ^ k.bits) = ((2 ^ k.bits : Nat) : Int) := by simp
  rw [this, ← Int.natCast_emod, Nat.mod_eq_of_lt h]

def plainOp : EOp → Bool
  | .bin op _ _ => match op with
    | .eql | .neq | .lss | .leq | .gtr | .geq => true
    | _ => false
  | .cvI _ _ => false
  | _ => true

section
variable {P : Program} {F : Hp} {l : Fr} {H : List HA} {C : Fr → List HA → Prop} {es : List EG} {i d : Nat} {c : Bool}

/-- a group none of whose operations must read from the frame -/
def ownReads (es : List EG) : Bool := es.all fun e => !e.calm || pureKind e.op
theorem Segs.oneS {r : List (List EG)} (_ : ownReads es = true) (h : Ops P F es l H fun l' H' => Segs P F r l' H' C) : Segs P F (es :: r) l H C := .inl h

/-- an operation that asks nothing of the world, and does not reckon -/
theorem Ops.q {op : EOp} {v : Value} (hp : plainOp op = true) (h : pv l op = some v) (k : Ops P F es ((d, v) :: l) H C) : Ops P F (EG.mk i (some d) none c op :: es) l H C := Ops.p h k

theorem Ops.rem {x y : Operand} {k : IntKind} {a b : Int} (hx : get l x = some (.int k a)) (hy : get l y = some (.int k b)) (h0 : 0 ≤ a) (hb : 0 < b) (kk : Ops P F es ((d, .int k (a % b)) :: l) H C) :
    Ops P F (EG.mk i (some d) none c (.bin .rem x y) :: es) l H C :=
  Ops.p (by
    have : ¬ b = 0 := by omega
    simp only [pv, hx, hy, binVal, if_true, if_neg this]
    rw [Int.tmod_eq_emod_of_nonneg h0]) kk

theorem Ops.quo {x y : Operand} {a b : Int} (hx : get l x = some (.int .i64 a)) (hy : get l y = some (.int .i64 b)) (h0 : 0 ≤ a ∧ a < 9223372036854775808) (hb : 0 < b) (kk : Ops P F es ((d, .int .i64 (a / b)) :: l) H C) :
    Ops P F (EG.mk i (some d) none c (.bin .quo x y) :: es) l H C :=
  Ops.p (by
    have : ¬ b = 0 := by omega
    simp only [pv, hx, hy, binVal, if_true, if_neg this]
    rw [Int.tdiv_eq_ediv_of_nonneg h0.1, wrap_i64]
    · have := Int.ediv_nonneg h0.1 (Int.le_of_lt hb); omega
    · have := Int.ediv_le_self b h0.1; omega) kk

theorem Ops.shr {x y : Operand} {k k' : IntKind} {a j : Nat} {jj : Int} (hx : get l x = some (.int k (a : Int))) (hy : get l y = some (.int k' jj)) (hj : jj = (j : Int)) (h : j ≤ k.bits) (kk : Ops P F es ((d, .int k ((a >>> j : Nat) : Int)) :: l) H C) :
    Ops P F (EG.mk i (some d) none c (.bin .shr x y) :: es) l H C :=
  Ops.p (by
    subst hj
    have e2 : ¬ (((j : Nat) : Int) < 0) := by omega
    have e3 : min ((j : Nat) : Int).toNat k.bits = j := by simp; omega
    simp only [pv, hx, hy, binVal, if_neg e2, e3]
    have e4 : ((a : Nat) : Int).fdiv (2 ^ j) = ((a >>> j : Nat) : Int) := by
      rw [Nat.shiftRight_eq_div_pow, Int.fdiv_eq_ediv_of_nonneg _ (Int.le_of_lt (Int.pow_pos (by omega)))]
      simp
    rw [e4]) kk

theorem bv_nat {n w : Nat} (h : n < 2 ^ w) : (BitVec.ofInt w (n : Int)).toNat = n := by
  rw [BitVec.ofInt_natCast, BitVec.toNat_ofNat, Nat.mod_eq_of_lt h]

theorem Ops.and {x y : Operand} {k : IntKind} {a b : Nat} {aa bb : Int} (hx : get l x = some (.int k aa)) (hy : get l y = some (.int k bb)) (ea : aa = (a : Int)) (eb : bb = (b : Int)) (hs : k.signed = false) (ha : a < 2 ^ k.bits) (hb : b < 2 ^ k.bits)
    (kk : Ops P F es ((d, .int k ((a &&& b : Nat) : Int)) :: l) H C) : Ops P F (EG.mk i (some d) none c (.bin .and x y) :: es) l H C :=
  Ops.p (by
    subst ea; subst eb
    simp only [pv, hx, hy, binVal, if_true]
    rw [BitVec.toNat_and, bv_nat ha, bv_nat hb, wrap_nat hs (Nat.lt_of_le_of_lt Nat.and_le_left ha)]) kk

theorem Ops.or {x y : Operand} {k : IntKind} {a b : Nat} {aa bb : Int} (hx : get l x = some (.int k aa)) (hy : get l y = some (.int k bb)) (ea : aa = (a : Int)) (eb : bb = (b : Int)) (hs : k.signed = false) (ha : a < 2 ^ k.bits) (hb : b < 2 ^ k.bits)
    (kk : Ops P F es ((d, .int k ((a ||| b : Nat) : Int)) :: l) H C) : Ops P F (EG.mk i (some d) none c (.bin .or x y) :: es) l H C :=
  Ops.p (by
    subst ea; subst eb
    simp only [pv, hx, hy, binVal, if_true]
    rw [BitVec.toNat_or, bv_nat ha, bv_nat hb, wrap_nat hs (Nat.or_lt_two_pow ha hb)]) kk

theorem Ops.xor {x y : Operand} {k : IntKind} {a b : Nat} {aa bb : Int} (hx : get l x = some (.int k aa)) (hy : get l y = some (.int k bb)) (ea : aa = (a : Int)) (eb : bb = (b : Int)) (hs : k.signed = false) (ha : a < 2 ^ k.bits) (hb : b < 2 ^ k.bits)
    (kk : Ops P F es ((d, .int k ((a ^^^ b : Nat) : Int)) :: l) H C) : Ops P F (EG.mk i (some d) none c (.bin .xor x y) :: es) l H C :=
  Ops.p (by
    subst ea; subst eb
    simp only [pv, hx, hy, binVal, if_true]
    rw [BitVec.toNat_xor, bv_nat ha, bv_nat hb, wrap_nat hs (Nat.xor_lt_two_pow ha hb)]) kk

/-- masks of an int that is at least 0 -/
theorem Ops.and64 {x y : Operand} {a b : Nat} {aa bb : Int} (hx : get l x = some (.int .i64 aa)) (hy : get l y = some (.int .i64 bb)) (ea : aa = (a : Int)) (eb : bb = (b : Int)) (ha : a < 9223372036854775808) (hb : b < 9223372036854775808)
    (kk : Ops P F es ((d, .int .i64 ((a &&& b : Nat) : Int)) :: l) H C) : Ops P F (EG.mk i (some d) none c (.bin .and x y) :: es) l H C :=
  Ops.p (by
    subst ea; subst eb
    simp only [pv, hx, hy, binVal, if_true]
    rw [BitVec.toNat_and, bv_nat (by simp [IntKind.bits]; omega), bv_nat (by simp [IntKind.bits]; omega)]
    have := @Nat.and_le_left a b
    rw [wrap_i64 (by omega) (by omega)]) kk
end
end Eng
end Go.Proofs.Ytbhlolmglieehaa
