/- Numbers as bytes, and sums, plainly; what it is to read bytes in memory. -/
import Derived.Test.YtnfomoeicgdkkaaGreatDoorZ3
import Derived.Test.YtnfomoeicgdkkaaGreatDoorZ2
set_option linter.unusedSimpArgs false
set_option linter.unusedVariables false
namespace Go.Proofs.YtnfomoeicgdkkaaGreatDoor

/-- a number's four bytes, the lowest first -/
def le4 (n : Nat) : Bytes := [UInt8.ofNat n, UInt8.ofNat (n / 256), UInt8.ofNat (n / 65536), UInt8.ofNat (n / 16777216)]

def val4 (a b c d : UInt8) : Nat := a.toNat + b.toNat * 256 + c.toNat * 65536 + d.toNat * 16777216

theorem val4_lt (a b c d : UInt8) : val4 a b c d < 4294967296 := by
  have := a.toNat_lt; have := b.toNat_lt; have := c.toNat_lt; have := d.toNat_lt
  unfold val4; omega

theorem val4_le4 (n : Nat) (h : n < 4294967296) : val4 (UInt8.ofNat n) (UInt8.ofNat (n / 256)) (UInt8.ofNat (n / 65536)) (UInt8.ofNat (n / 16777216)) = n := by
  unfold val4
  simp only [UInt8.toNat_ofNat']
  omega

theorem le4_len (n : Nat) : (le4 n).length = 4 := rfl

/-- a reader: what is left, and whether something was wrong -/
structure Rd where
  b : Bytes
  bad : Bool

def Rd.num (most : Int) : Rd → Int × Rd
  | ⟨a :: b :: c :: d :: r, bad⟩ => if most < (val4 a b c d : Int) then (0, ⟨[], true⟩) else ((val4 a b c d : Int), ⟨r, bad⟩)
  | _ => (0, ⟨[], true⟩)

def crcBit (c : Nat) : Nat := if c % 2 = 1 then (c / 2) ^^^ 3988292384 else c / 2
def crcBits : Nat → Nat → Nat
  | 0, c => c
  | n + 1, c => crcBits n (crcBit c)
def crcByte (c : Nat) (b : UInt8) : Nat := crcBits 8 (c ^^^ b.toNat)
def crcOf (bs : Bytes) : Nat := (bs.foldl crcByte 4294967295) ^^^ 4294967295

theorem crcBit_lt {c : Nat} (h : c < 4294967296) : crcBit c < 4294967296 := by
  unfold crcBit
  split
  · exact Nat.xor_lt_two_pow (n := 32) (by omega) (by decide)
  · omega
theorem crcBits_lt : ∀ (n : Nat) {c : Nat}, c < 4294967296 → crcBits n c < 4294967296
  | 0, _, h => h
  | n + 1, _, h => crcBits_lt n (crcBit_lt h)
theorem crcByte_lt {c : Nat} (h : c < 4294967296) (b : UInt8) : crcByte c b < 4294967296 :=
  crcBits_lt 8 (Nat.xor_lt_two_pow (n := 32) h (by have := b.toNat_lt; omega))
theorem crcFold_lt : ∀ (bs : Bytes) {c : Nat}, c < 4294967296 → bs.foldl crcByte c < 4294967296
  | [], _, h => h
  | b :: bs, _, h => crcFold_lt bs (crcByte_lt h b)
theorem crcOf_lt (bs : Bytes) : crcOf bs < 4294967296 := Nat.xor_lt_two_pow (n := 32) (crcFold_lt bs (by decide)) (by decide)

namespace Eng

/-- bytes that can be read in the frame -/
def RdB (F : Hp) (v : Value) (bs : Bytes) : Prop := ∃ a c, v = .slice a bs.length c ∧
  (bs = [] ∨ ∃ b o L T fz, a = some ⟨b, o, none⟩ ∧ F b = some (.cells (List.toArray L) T fz) ∧ o + bs.length ≤ L.length ∧ (L.drop o).take bs.length = bvs bs)

theorem RdB.ext {F F' : Hp} (e : Ext F F') {v : Value} {bs : Bytes} (h : RdB F v bs) : RdB F' v bs := by
  obtain ⟨a, c, hv, h⟩ := h
  refine ⟨a, c, hv, h.imp id ?_⟩
  rintro ⟨b, o, L, T, fz, ha, hF, r⟩
  exact ⟨b, o, L, T, fz, ha, e _ _ hF, r⟩

theorem RdB.shows {F : Hp} {v : Value} {bs : Bytes} (h : RdB F v bs) {H : List HA} : ∀ w h, seps H h → Fits F h w → shows w 1 bs.length v (bvs bs) := by
  intro w hh _ f
  obtain ⟨a, c, rfl, h | ⟨b, o, L, T, fz, rfl, hF, hl, ht⟩⟩ := h
  · subst h
    cases a with
    | none => rfl
    | some a => exact .inl ⟨rfl, rfl⟩
  · exact .inr ⟨rfl, L, T, fz, f.frm _ _ hF, by simpa using hl, by rw [Nat.mul_one]; exact ht.symm⟩

theorem RdB.len {F : Hp} {v : Value} {bs : Bytes} (h : RdB F v bs) : lenV v = some bs.length := by
  obtain ⟨a, c, rfl, _⟩ := h; rfl

theorem RdB.nil {F : Hp} : RdB F (.slice none 0 0) [] := ⟨none, 0, rfl, .inl rfl⟩

/-- rows of bytes that can be read in the frame -/
def RdBB (F : Hp) (v : Value) (bss : List Bytes) : Prop := ∃ a c, v = .slice a bss.length c ∧
  (bss = [] ∨ ∃ b o L T fz, a = some ⟨b, o, none⟩ ∧ F b = some (.cells (List.toArray L) T fz) ∧ o + bss.length ≤ L.length ∧ ∀ i bs, bss[i]? = some bs → ∃ x, L[o + i]? = some x ∧ RdB F x bs)

theorem RdBB.ext {F F' : Hp} (e : Ext F F') {v : Value} {bss : List Bytes} (h : RdBB F v bss) : RdBB F' v bss := by
  obtain ⟨a, c, hv, h⟩ := h
  refine ⟨a, c, hv, h.imp id ?_⟩
  rintro ⟨b, o, L, T, fz, ha, hF, hl, r⟩
  refine ⟨b, o, L, T, fz, ha, e _ _ hF, hl, fun i bs hi => ?_⟩
  obtain ⟨x, h1, h2⟩ := r i bs hi
  exact ⟨x, h1, h2.ext e⟩

/-- what a slice that owns its array lends -/
theorem OwnI.rdB {a : Option Addr} {n c : Nat} {T : TypeId} {bs : Bytes} {G : List HA} (h : OwnI a n c 1 T (bvs bs) G) {F : Hp} (k : Known G F) : RdB F (.slice a n c) bs := by
  obtain ⟨hl, h⟩ := h
  have hn : n = bs.length := by rw [bvs_len] at hl; omega
  subst hn
  refine ⟨a, c, rfl, ?_⟩
  rcases h with ⟨_, h, _, _⟩ | ⟨b, sp, rfl, hc, hcap, rfl⟩
  · exact .inl (List.length_eq_zero_iff.1 h)
  · refine .inr ⟨b, 0, bvs bs ++ sp, T, (0, 0), rfl, k _ _ m0, by simp [bvs_len], by simp [← bvs_len bs]⟩

/-- a block of bytes that is known -/
theorem rdB_of {F : Hp} {b o : Nat} {L : List Value} {T : TypeId} {fz : Nat × Nat} {bs : Bytes} {c : Nat} (hF : F b = some (.cells L.toArray T fz)) (hl : o + bs.length ≤ L.length) (ht : (L.drop o).take bs.length = bvs bs) :
    RdB F (.slice (some ⟨b, o, none⟩) bs.length c) bs := ⟨_, c, rfl, .inr ⟨b, o, L, T, fz, rfl, hF, hl, ht⟩⟩

/-- a reader in memory -/
def RdI (r : Nat) (R : Rd) (G : List HA) : Prop := ∃ a c, (R.b = [] ∧ G = [.pt r (.cells [.slice a R.b.length c, .bool R.bad].toArray 296 (0, 0))]) ∨
  ∃ b o L T fz, a = some ⟨b, o, none⟩ ∧ o + R.b.length ≤ L.length ∧ R.b.length ≤ c ∧ (L.drop o).take R.b.length = bvs R.b ∧
    G = [.pt r (.cells [.slice a R.b.length c, .bool R.bad].toArray 296 (0, 0)), .pt b (.cells (List.toArray L) T fz)]
def RdP (r : Nat) (R : Rd) : HA := grp (RdI r R)

end Eng
end Go.Proofs.YtnfomoeicgdkkaaGreatDoor

/- Numbers as bytes: rec's functions. -/
set_option linter.unusedSimpArgs false
set_option linter.unusedVariables false
namespace Go.Proofs.YtnfomoeicgdkkaaGreatDoor
namespace Eng
attribute [local irreducible] Ops Segs Run Spec

theorem wrap8 (n : Nat) : IntKind.u8.wrap ((n : Nat) : Int) = ((UInt8.ofNat n).toNat : Int) := by
  unfold IntKind.wrap
  simp only [IntKind.signed, IntKind.bits, Bool.false_and, Bool.false_eq_true, if_false, UInt8.toNat_ofNat']
  omega

theorem rec_number (n : Nat) (hn : n < 4294967296) (F : Hp) : Spec Tryz.prog 201 [.int .u32 n].toArray F [] fun v H => ∃ b, v = .slice (some ⟨b, 0, none⟩) 4 4 ∧ H = [.pt b (.cells (bvs (le4 n)).toArray 5 (0, 0))] := by
  refine Spec.enter (n := 15) Tryz.func201 ok_rec_number rfl (by simp) ?_
  unfold ec_rec_number
  simp only [argFr, Nat.reduceAdd]
  refine go ?_
  refine Ops.p rfl ?_
  refine go ?_
  refine Ops.shr (j := 8) rfl rfl rfl (by decide) ?_
  refine Ops.p rfl ?_
  refine go ?_
  refine Ops.shr (j := 16) rfl rfl rfl (by decide) ?_
  refine Ops.p rfl ?_
  refine go ?_
  refine Ops.shr (j := 24) rfl rfl rfl (by decide) ?_
  refine Ops.p rfl ?_
  simp only [wrap8, Nat.shiftRight_eq_div_pow, Nat.reducePow]
  refine Ops.lit (bvs (le4 n)) rfl rfl fun b => ?_
  refine go ?_
  exact Run.ret1 Tryz.func201 rfl rfl (fun h q => q) ⟨b, rfl, rfl⟩

theorem rec_Num (n : Nat) (hn : n < 4294967296) (F : Hp) : Spec Tryz.prog 156 [.int .i64 n].toArray F [] fun v H => ∃ b, v = .slice (some ⟨b, 0, none⟩) 4 4 ∧ H = [.pt b (.cells (bvs (le4 n)).toArray 5 (0, 0))] := by
  refine Spec.enter (n := 6) Tryz.func156 ok_rec_Num rfl (by simp) ?_
  unfold ec_rec_Num
  simp only [argFr, Nat.reduceAdd]
  refine go ?_
  refine Ops.pE (v' := .int .u32 n) rfl (by rw [wrap_u32 (by omega) (by omega)]) ?_
  refine Ops.call1 rfl .nil (fun F' e kn => rec_number n hn F') ?_
  rintro v G ⟨b, rfl, rfl⟩
  refine go ?_
  exact Run.ret1 Tryz.func156 rfl rfl (fun h q => q) ⟨b, rfl, rfl⟩

theorem rec_Read (v : Value) (bs : Bytes) (F : Hp) (hb : RdB F v bs) (hlen : bs.length ≤ 1099511627776) : Spec Tryz.prog 138 [v].toArray F [] fun v H => ∃ r, v = .pointer (some ⟨r, 0, none⟩) ∧ H = [RdP r ⟨bs, false⟩] := by
  refine Spec.enter (n := 7) Tryz.func138 ok_rec_Read rfl (by simp) ?_
  unfold ec_rec_Read
  simp only [argFr, Nat.reduceAdd]
  refine go ?_
  refine Ops.appN (ys := bvs bs) rfl rfl hb.len (fun w h q f => hb.shows w h q f) (bvs_one bs) (by rw [bvs_len]; simp) (by simp) (by omega) fun a c => ?_
  refine Ops.bld [.slice a bs.length c, .bool false] rfl rfl ?_
  refine Ops.box (vs := [.slice a bs.length c, .bool false]) rfl rfl fun r => ?_
  refine go ?_
  refine Run.open_ s1 fun G ⟨hl, hG⟩ => ?_
  rcases hG with ⟨ha, h0, hc, hG⟩ | ⟨b, sp, ha, hnc, hcap, hG⟩
  · subst hG
    have : bs = [] := List.length_eq_zero_iff.1 h0
    subst this
    exact Run.ret1 Tryz.func138 rfl rfl (fold_grp (I := RdI r ⟨[], false⟩) (.cons s0 .nil) ⟨a, c, .inl ⟨rfl, rfl⟩⟩) ⟨r, rfl, rfl⟩
  · subst hG; subst ha
    simp only [List.cons_append, List.nil_append]
    refine Run.ret1 Tryz.func138 rfl rfl (fold_grp (I := RdI r ⟨bs, false⟩) (.cons s1 (.cons s0 .nil)) ⟨_, c, .inr ⟨b, 0, bvs bs ++ sp, _, _, rfl, ?_, hnc, ?_, rfl⟩⟩) ⟨r, rfl, rfl⟩
    · simp [bvs_len]
    · simp [← bvs_len bs]

/-- a reader is opened: its cells, and what it has of a block -/
theorem rec_Reader_Good (r : Nat) (R : Rd) (F : Hp) : Spec Tryz.prog 145 [.pointer (some ⟨r, 0, none⟩)].toArray F [RdP r R] fun v H => v = .bool (!R.bad) ∧ H = [RdP r R] := by
  refine Spec.enter (n := 8) Tryz.func145 ok_rec_Reader_Good rfl (by simp) ?_
  unfold ec_rec_Reader_Good
  simp only [argFr, Nat.reduceAdd]
  refine Run.open_ s0 fun G hG => ?_
  obtain ⟨a, c, ⟨hb, rfl⟩ | ⟨b, o, L, T, fz, ha, hl, hlc, ht, rfl⟩⟩ := hG
  · simp only [List.cons_append, List.nil_append]
    refine go ?_
    exact Run.ret1 Tryz.func145 rfl rfl (fold_grp (.cons s0 .nil) ⟨a, c, .inl ⟨hb, rfl⟩⟩) ⟨rfl, rfl⟩
  · simp only [List.cons_append, List.nil_append]
    refine go ?_
    exact Run.ret1 Tryz.func145 rfl rfl (fold_grp (.cons s0 (.cons s0 .nil)) ⟨a, c, .inr ⟨b, o, L, T, fz, ha, hl, hlc, ht, rfl⟩⟩) ⟨rfl, rfl⟩

end Eng
end Go.Proofs.YtnfomoeicgdkkaaGreatDoor

/- Numbers taken off bytes. -/
set_option linter.unusedSimpArgs false
set_option linter.unusedVariables false
namespace Go.Proofs.YtnfomoeicgdkkaaGreatDoor
namespace Eng
attribute [local irreducible] Ops Segs Run Spec

theorem or_add {x y i : Nat} (hx : x < 2 ^ i) : x ||| (y * 2 ^ i) = x + y * 2 ^ i := by
  have := Nat.shiftLeft_add_eq_or_of_lt hx y
  rw [Nat.shiftLeft_eq] at this
  rw [Nat.or_comm, ← this, Nat.add_comm]

theorem at_of {L : List Value} {o n : Nat} {bs : Bytes} (ht : (L.drop o).take n = bvs bs) {i : Nat} {b : UInt8} (hi : i < n) (hb : bs[i]? = some b) : L[o + i]? = some (bv b) := by
  have := congrArg (fun l => l[i]?) ht
  simp only [List.getElem?_take, if_pos hi, List.getElem?_drop, bvs, List.getElem?_map, hb] at this
  exact this

theorem rec_Reader_Num (r : Nat) (R : Rd) (most : Int) (hR : R.b.length ≤ 1099511627776) (F : Hp) :
    Spec Tryz.prog 139 [.pointer (some ⟨r, 0, none⟩), .int .i64 most].toArray F [RdP r R] fun v H => v = .int .i64 (R.num most).1 ∧ H = [RdP r (R.num most).2] := by
  refine Spec.enter (n := 72) Tryz.func139 ok_rec_Reader_Num rfl (by simp) ?_
  unfold ec_rec_Reader_Num
  simp only [argFr, Nat.reduceAdd]
  refine Run.open_ s0 fun G hG => ?_
  have short : R.b.length < 4 → R.num most = (0, ⟨[], true⟩) := by
    intro h
    obtain ⟨b, bad⟩ := R
    match b, h with
    | [], _ => rfl
    | [_], _ => rfl
    | [_, _], _ => rfl
    | [_, _, _], _ => rfl
    | _ :: _ :: _ :: _ :: _, h => simp at h; omega
  obtain ⟨a, c, ⟨hb, rfl⟩ | ⟨b, o, L, T, fz, rfl, hl, hlc, ht, rfl⟩⟩ := hG
  · simp only [List.cons_append, List.nil_append]
    refine go ?_
    refine Run.condD rfl (fun h => ?_) (fun h => ?_)
    · rw [short (by rw [hb]; simp)]
      refine go ?_
      exact Run.ret1 Tryz.func139 rfl rfl (fold_grp (I := RdI r ⟨[], true⟩) (.cons s0 .nil) ⟨none, 0, .inl ⟨rfl, rfl⟩⟩) ⟨rfl, rfl⟩
    · rw [hb] at h; simp at h
  · simp only [List.cons_append, List.nil_append]
    refine go ?_
    refine Run.condD rfl (fun h => ?_) (fun h => ?_)
    · rw [short (by omega)]
      refine go ?_
      exact Run.ret1 Tryz.func139 rfl rfl (fun h q => take_sub (.cons s0 .nil) h (fold_grp (I := RdI r ⟨[], true⟩) (.cons s0 .nil) ⟨none, 0, .inl ⟨rfl, rfl⟩⟩ h q)) ⟨rfl, rfl⟩
    · obtain ⟨bs, bad⟩ := R
      dsimp only at *
      have h4 : ∃ b0 b1 b2 b3 rest, bs = b0 :: b1 :: b2 :: b3 :: rest := by
        match bs, h with
        | b0 :: b1 :: b2 :: b3 :: rest, _ => exact ⟨_, _, _, _, _, rfl⟩
        | [], h => simp at h
        | [_], h => simp at h
        | [_, _], h => simp at h
        | [_, _, _], h => simp at h
      obtain ⟨b0, b1, b2, b3, rest, rfl⟩ := h4
      · skip
        have g0 := at_of ht (i := 0) (by simp) rfl
        have g1 := at_of ht (i := 1) (by simp) rfl
        have g2 := at_of ht (i := 2) (by simp) rfl
        have g3 := at_of ht (i := 3) (by simp) rfl
        have l0 := b0.toNat_lt
        have l1 := b1.toNat_lt
        have l2 := b2.toNat_lt
        have l3 := b3.toNat_lt
        have hlen : ((b0 :: b1 :: b2 :: b3 :: rest : Bytes).length : Int) = rest.length + 4 := by simp; omega
        have hlenN : (b0 :: b1 :: b2 :: b3 :: rest : Bytes).length = rest.length + 4 := by simp
        have hv := val4_lt b0 b1 b2 b3
        refine go ?_
        refine Segs.lend [_, _] (.cons s0 (.cons s0 .nil)) fun F1 x1 k1 => ?_
        refine go ?_
        refine Ops.ldF rfl (k1 _ _ m0) rfl ?_
        refine Ops.ixS rfl rfl ⟨by omega, by omega⟩ ?_
        refine Ops.ldF rfl (k1 _ _ m1) g0 ?_
        refine Ops.pE (v' := .int .u32 (b0.toNat : Int)) rfl (by rw [wrap_u32 (by omega) (by omega)]) ?_
        refine Ops.ldF rfl (k1 _ _ m0) rfl ?_
        refine Ops.ixS rfl rfl ⟨by omega, by omega⟩ ?_
        refine Ops.ldF rfl (k1 _ _ m1) g1 ?_
        refine Ops.pE (v' := .int .u32 (b1.toNat : Int)) rfl (by rw [wrap_u32 (by omega) (by omega)]) ?_
        refine Ops.pE (v' := .int .u32 ((b1.toNat * 2 ^ 8 : Nat) : Int)) rfl (by rw [show min (Int.toNat 8) IntKind.u32.bits = 8 from rfl, wrap_u32 (by omega) (by omega)]; rfl) ?_
        refine Ops.or (k := .u32) rfl rfl rfl rfl rfl (by simp [IntKind.bits]; omega) (by simp [IntKind.bits]; omega) ?_
        rw [or_add (i := 8) (by omega)]
        refine Ops.ldF rfl (k1 _ _ m0) rfl ?_
        refine Ops.ixS rfl rfl ⟨by omega, by omega⟩ ?_
        refine Ops.ldF rfl (k1 _ _ m1) g2 ?_
        refine Ops.pE (v' := .int .u32 (b2.toNat : Int)) rfl (by rw [wrap_u32 (by omega) (by omega)]) ?_
        refine Ops.pE (v' := .int .u32 ((b2.toNat * 2 ^ 16 : Nat) : Int)) rfl (by rw [show min (Int.toNat 16) IntKind.u32.bits = 16 from rfl, wrap_u32 (by omega) (by omega)]; rfl) ?_
        refine Ops.or (k := .u32) rfl rfl rfl rfl rfl (by simp [IntKind.bits]; omega) (by simp [IntKind.bits]; omega) ?_
        rw [or_add (i := 16) (by omega)]
        refine Ops.ldF rfl (k1 _ _ m0) rfl ?_
        refine Ops.ixS rfl rfl ⟨by omega, by omega⟩ ?_
        refine Ops.ldF rfl (k1 _ _ m1) g3 ?_
        refine Ops.pE (v' := .int .u32 (b3.toNat : Int)) rfl (by rw [wrap_u32 (by omega) (by omega)]) ?_
        refine Ops.pE (v' := .int .u32 ((b3.toNat * 2 ^ 24 : Nat) : Int)) rfl (by rw [show min (Int.toNat 24) IntKind.u32.bits = 24 from rfl, wrap_u32 (by omega) (by omega)]; rfl) ?_
        refine go ?_
        refine Ops.or (k := .u32) rfl rfl rfl rfl rfl (by simp [IntKind.bits]; omega) (by simp [IntKind.bits]; omega) ?_
        rw [or_add (i := 24) (by omega), show b0.toNat + b1.toNat * 2 ^ 8 + b2.toNat * 2 ^ 16 + b3.toNat * 2 ^ 24 = val4 b0 b1 b2 b3 from rfl]
        refine go ?_
        refine Ops.slS rfl rfl rfl (by omega) (by omega) fun a' ha' => ?_
        refine go ?_
        rw [show (b0 :: b1 :: b2 :: b3 :: rest : Bytes).length - Int.toNat 4 = rest.length from by rw [hlenN]; rfl] at *
        refine Ops.pE (v' := .int .i64 (val4 b0 b1 b2 b3 : Int)) rfl (by rw [wrap_i64 (by omega) (by omega)]) ?_
        refine go ?_
        refine Run.condD rfl (fun hm => ?_) (fun hm => ?_)
        · have : Rd.num most ⟨b0 :: b1 :: b2 :: b3 :: rest, bad⟩ = (0, ⟨[], true⟩) := by simp only [Rd.num]; rw [if_pos hm]
          rw [this]
          refine go ?_
          exact Run.ret1 Tryz.func139 rfl rfl (fun h q => take_sub (.cons s0 .nil) h (fold_grp (I := RdI r ⟨[], true⟩) (.cons s0 .nil) ⟨none, 0, .inl ⟨rfl, rfl⟩⟩ h q)) ⟨rfl, rfl⟩
        · have : Rd.num most ⟨b0 :: b1 :: b2 :: b3 :: rest, bad⟩ = ((val4 b0 b1 b2 b3 : Int), ⟨rest, bad⟩) := by simp only [Rd.num]; rw [if_neg hm]
          rw [this]
          refine go ?_
          refine Ops.pE (v' := .int .i64 (val4 b0 b1 b2 b3 : Int)) rfl (by rw [wrap_i64 (by omega) (by omega)]) ?_
          refine go ?_
          by_cases hr : rest = []
          · subst hr
            exact Run.ret1 Tryz.func139 rfl rfl (fun h q => take_sub (.cons s0 .nil) h (fold_grp (I := RdI r ⟨[], bad⟩) (.cons s0 .nil) ⟨a', c - Int.toNat 4, .inl ⟨rfl, rfl⟩⟩ h q)) ⟨rfl, rfl⟩
          · have ha2 : a' = some ⟨b, o + 4, none⟩ := by
              rcases ha' with x | x
              · rw [x]; rfl
              · exact absurd (List.length_eq_zero_iff.1 x) hr
            subst ha2
            refine Run.ret1 Tryz.func139 rfl rfl (fold_grp (I := RdI r ⟨rest, bad⟩) (.cons s0 (.cons s0 .nil)) ⟨_, c - Int.toNat 4, .inr ⟨b, o + 4, L, T, fz, rfl, ?_, ?_, ?_, rfl⟩⟩) ⟨rfl, rfl⟩
            · dsimp only; omega
            · dsimp only; show rest.length ≤ c - 4; omega
            · have := congrArg (fun l => l.drop 4) ht
              simp only [List.drop_take, List.drop_drop, hlenN] at this
              simpa [bvs] using this

end Eng
end Go.Proofs.YtnfomoeicgdkkaaGreatDoor

/- Parts behind one another; sums. -/
set_option linter.unusedSimpArgs false
set_option linter.unusedVariables false
namespace Go.Proofs.YtnfomoeicgdkkaaGreatDoor

theorem flatten_take_succ {bss : List Bytes} {i : Nat} {bs : Bytes} (h : bss[i]? = some bs) : (bss.take (i + 1)).flatten = (bss.take i).flatten ++ bs := by
  have hi : i < bss.length := by
    rcases Nat.lt_or_ge i bss.length with x | x
    · exact x
    · rw [List.getElem?_eq_none x] at h; cases h
  rw [List.getElem?_eq_getElem hi] at h
  obtain rfl := Option.some.inj h
  rw [List.take_succ_eq_append_getElem hi, List.flatten_append, List.flatten_singleton]

theorem flatten_take_le (bss : List Bytes) (i : Nat) : ((bss.take i).flatten).length ≤ bss.flatten.length := by
  have : bss.flatten = (bss.take i).flatten ++ (bss.drop i).flatten := by rw [← List.flatten_append, List.take_append_drop]
  rw [this, List.length_append]; omega

theorem part_le {bss : List Bytes} {i : Nat} {bs : Bytes} (h : bss[i]? = some bs) : bs.length ≤ bss.flatten.length := by
  have h1 := flatten_take_succ h
  have h2 := flatten_take_le bss (i + 1)
  rw [h1, List.length_append] at h2; omega

theorem bvs_app (a b : Bytes) : bvs (a ++ b) = bvs a ++ bvs b := by simp [bvs]

namespace Eng
attribute [local irreducible] Ops Segs Run Spec

theorem rec_Pack (v : Value) (bss : List Bytes) (F : Hp) (hb : RdBB F v bss) (hn : bss.length ≤ 1099511627776) (ht : bss.flatten.length ≤ 1099511627776) :
    Spec Tryz.prog 159 [v].toArray F [] fun v H => ∃ a c, v = .slice a bss.flatten.length c ∧ H = [OwnS a bss.flatten.length c 1 5 (bvs bss.flatten)] := by
  refine Spec.enter (n := 17) Tryz.func159 ok_rec_Pack rfl (by simp) ?_
  unfold ec_rec_Pack
  simp only [argFr, Nat.reduceAdd]
  obtain ⟨oa, oc, rfl, hb⟩ := hb
  refine go ?_
  refine Run.loopI (ι := Nat × Option Addr × Nat) (fun x => bss.length - x.1) (fun x => x.1 ≤ bss.length)
    (fun x => [(8, .int .i64 x.1), (7, .int .i64 bss.length), (6, .slice oa bss.length oc), (3, .slice x.2.1 ((bss.take x.1).flatten).length x.2.2)])
    (fun x => [OwnS x.2.1 ((bss.take x.1).flatten).length x.2.2 1 5 (bvs ((bss.take x.1).flatten))])
    (0, none, 0) (Nat.zero_le _) (.cons rfl (.cons rfl (.cons rfl (.cons rfl .nil)))) own_new ?_
  rintro ⟨i, a, c⟩ hi ih
  dsimp only at hi ih ⊢
  unfold ec_rec_Pack_L0
  refine go ?_
  refine Run.condD rfl (fun hlt => ?_) (fun hge => ?_)
  · have hlt' : i < bss.length := by omega
    have hel : bss[i]? = some bss[i] := List.getElem?_eq_getElem hlt'
    rcases hb with hb | ⟨ob, o, L, T, fz, rfl, hF, hl, hrd⟩
    · rw [hb] at hlt'; simp at hlt'
    obtain ⟨x, hx, hrx⟩ := hrd i _ hel
    have hpl := part_le hel
    have hfl := flatten_take_succ hel
    have hfle := flatten_take_le bss i
    generalize bss[i] = bs at *
    refine go ?_
    refine Ops.ixS rfl rfl ⟨by omega, by omega⟩ ?_
    refine Ops.ldF rfl hF (by rw [Int.toNat_natCast, Nat.mul_one]; exact hx) ?_
    refine go ?_
    refine Ops.app rfl rfl hrx.len s0 (fun w h q f => hrx.shows w h q f) (bvs_one bs) (by rw [bvs_len]; simp) (by simp) (by omega) fun a' c' => ?_
    refine go ?_
    refine Run.lp (Run.again (ih (i + 1, a', c') (by dsimp only; omega) (by dsimp only; omega)) (.cons rfl (.cons rfl (.cons rfl (.cons ?_ .nil)))) ?_)
    · dsimp only; rw [hfl, List.length_append]; rfl
    · dsimp only; rw [hfl, List.length_append, bvs_app]; exact fun _ h => h
  · have : i = bss.length := by omega
    subst this
    rw [List.take_length] at *
    refine Run.exit rfl ?_
    refine go ?_
    exact Run.ret1 Tryz.func159 rfl rfl (fun h q => q) ⟨a, c, rfl, rfl⟩

theorem crc_Of (v : Value) (bss : List Bytes) (F : Hp) (hb : RdBB F v bss) (hn : bss.length ≤ 1099511627776) (ht : bss.flatten.length ≤ 1099511627776) :
    Spec Tryz.prog 191 [v].toArray F [] fun v H => v = .int .u32 (crcOf bss.flatten) ∧ H = [] := by
  refine Spec.enter (n := 39) Tryz.func191 ok_crc_Of rfl (by simp) ?_
  unfold ec_crc_Of
  simp only [argFr, Nat.reduceAdd]
  obtain ⟨oa, oc, rfl, hb⟩ := hb
  refine go ?_
  refine Run.loopI (ι := Nat) (fun x => bss.length - x) (fun x => x ≤ bss.length)
    (fun x => [(10, .int .i64 x), (9, .int .i64 bss.length), (8, .slice oa bss.length oc), (3, .int .u32 (((bss.take x).flatten.foldl crcByte 4294967295 : Nat) : Int))]) (fun _ => [])
    0 (Nat.zero_le _) (.cons rfl (.cons rfl (.cons rfl (.cons rfl .nil)))) (fun _ h => h) ?_
  rintro i hi ih
  try dsimp only at hi ih ⊢
  unfold ec_crc_Of_L2
  refine go ?_
  refine Run.condD rfl (fun hlt => ?_) (fun hge => ?_)
  · have hlt' : i < bss.length := by omega
    have hel : bss[i]? = some bss[i] := List.getElem?_eq_getElem hlt'
    rcases hb with hb | ⟨ob, o, L, T, fz, rfl, hF, hl, hrd⟩
    · rw [hb] at hlt'; simp at hlt'
    obtain ⟨x, hx, hrx⟩ := hrd i _ hel
    have hpl := part_le hel
    have hfl := flatten_take_succ hel
    generalize bss[i] = bs at *
    obtain ⟨ba, bc, rfl, hbs⟩ := hrx
    have hc0 : (bss.take i).flatten.foldl crcByte 4294967295 < 4294967296 := crcFold_lt _ (by decide)
    have hnext : (bss.take (i + 1)).flatten.foldl crcByte 4294967295 = bs.foldl crcByte ((bss.take i).flatten.foldl crcByte 4294967295) := by rw [hfl, List.foldl_append]
    have ih' := ih (i + 1) (by omega) (by omega)
    rw [hnext] at ih'
    clear ih hnext hfl
    generalize (bss.take i).flatten.foldl crcByte 4294967295 = c0 at *
    refine go ?_
    refine Ops.ixS rfl rfl ⟨by omega, by omega⟩ ?_
    refine Ops.ldF rfl hF (by rw [Int.toNat_natCast, Nat.mul_one]; exact hx) ?_
    refine go ?_
    refine Run.loopI (ι := Nat) (fun x => bs.length - x) (fun x => x ≤ bs.length)
      (fun x => [(16, .int .i64 x), (15, .int .i64 bs.length), (14, .slice ba bs.length bc), (3, .int .u32 (((bs.take x).foldl crcByte c0 : Nat) : Int)), (10, .int .i64 i), (9, .int .i64 bss.length), (8, .slice (some ⟨ob, o, none⟩) bss.length oc)]) (fun _ => [])
      0 (Nat.zero_le _) (.cons rfl (.cons rfl (.cons rfl (.cons rfl (.cons rfl (.cons rfl (.cons rfl .nil))))))) (fun _ h => h) ?_
    rintro j hj ihj
    try dsimp only at hj ihj ⊢
    unfold ec_crc_Of_L1
    refine go ?_
    refine Run.condD rfl (fun hlt2 => ?_) (fun hge2 => ?_)
    · have hlt2' : j < bs.length := by omega
      rcases hbs with hbs | ⟨cb, o2, L2, T2, fz2, rfl, hF2, hl2, ht2⟩
      · rw [hbs] at hlt2'; simp at hlt2'
      have hel2 : bs[j]? = some bs[j] := List.getElem?_eq_getElem hlt2'
      have g := at_of ht2 hlt2' hel2
      have hnext : (bs.take (j + 1)).foldl crcByte c0 = crcByte ((bs.take j).foldl crcByte c0) bs[j] := by
        rw [List.take_succ_eq_append_getElem hlt2', List.foldl_append]; rfl
      generalize bs[j] = u at *
      have hc1 : (bs.take j).foldl crcByte c0 < 4294967296 := crcFold_lt _ hc0
      have hu := u.toNat_lt
      have ihj' := ihj (j + 1) (by omega) (by omega)
      rw [hnext] at ihj'
      clear ihj hnext
      generalize (bs.take j).foldl crcByte c0 = c1 at *
      have hcu : c1 ^^^ u.toNat < 4294967296 := Nat.xor_lt_two_pow (n := 32) hc1 (by omega)
      refine go ?_
      refine Ops.ixS rfl rfl ⟨by omega, by omega⟩ ?_
      refine Ops.ldF rfl hF2 (by rw [Int.toNat_natCast, Nat.mul_one]; exact g) ?_
      refine go ?_
      refine Ops.pE (v' := .int .u32 (u.toNat : Int)) rfl (by rw [wrap_u32 (by omega) (by omega)]) ?_
      refine Ops.xor (k := .u32) rfl rfl rfl rfl rfl (by simp [IntKind.bits]; omega) (by simp [IntKind.bits]; omega) ?_
      refine go ?_
      unfold crcByte at ihj'
      refine Run.loopI (ι := Nat × Nat) (fun x => x.1) (fun x => x.1 ≤ 8 ∧ x.2 < 4294967296 ∧ crcBits x.1 x.2 = crcBits 8 (c1 ^^^ u.toNat))
        (fun x => [(24, .int .i64 ((8 : Int) - x.1)), (3, .int .u32 (x.2 : Int)), (16, .int .i64 j), (15, .int .i64 bs.length), (14, .slice (some ⟨cb, o2, none⟩) bs.length bc), (10, .int .i64 i), (9, .int .i64 bss.length), (8, .slice (some ⟨ob, o, none⟩) bss.length oc)]) (fun _ => [])
        (8, c1 ^^^ u.toNat) ⟨by omega, hcu, rfl⟩ (.cons rfl (.cons rfl (.cons rfl (.cons rfl (.cons rfl (.cons rfl (.cons rfl (.cons rfl .nil)))))))) (fun _ h => h) ?_
      rintro ⟨n, cc⟩ ⟨hn8, hcc, hcr⟩ ihn
      dsimp only at hn8 hcc hcr ihn ⊢
      unfold ec_crc_Of_L0
      refine go ?_
      refine Run.condD rfl (fun hlt3 => ?_) (fun hge3 => ?_)
      · obtain ⟨n, rfl⟩ : ∃ m, n = m + 1 := ⟨n - 1, by omega⟩
        simp only [crcBits] at hcr
        refine go ?_
        refine Ops.and (k := .u32) (b := 1) rfl rfl rfl rfl rfl (by simp [IntKind.bits]; omega) (by simp [IntKind.bits]) ?_
        rw [Nat.and_one_is_mod]
        refine go ?_
        refine Run.condD rfl (fun hbit => ?_) (fun hbit => ?_)
        · have hb1 : crcBit cc = (cc / 2) ^^^ 3988292384 := by unfold crcBit; rw [if_pos (by omega)]
          rw [hb1] at hcr
          refine go ?_
          refine Ops.shr (j := 1) rfl rfl rfl (by decide) ?_
          rw [show cc >>> 1 = cc / 2 by rw [Nat.shiftRight_succ, Nat.shiftRight_zero]]
          refine Ops.xor (k := .u32) (b := 3988292384) rfl rfl rfl rfl rfl (by simp [IntKind.bits]; omega) (by simp [IntKind.bits]) ?_
          refine go ?_
          refine Run.lp (Run.again (ihn (n, (cc / 2) ^^^ 3988292384) (by dsimp only; omega) ⟨by dsimp only; omega, Nat.xor_lt_two_pow (n := 32) (by omega) (by decide), hcr⟩) (.cons ?_ (.cons rfl (.cons rfl (.cons rfl (.cons rfl (.cons rfl (.cons rfl (.cons rfl .nil)))))))) (fun _ h => h))
          rw [show (8 : Int) - ((n : Nat) : Int) = 8 - ((n + 1 : Nat) : Int) + 1 by omega]; rfl
        · have hb1 : crcBit cc = cc / 2 := by unfold crcBit; rw [if_neg (by omega)]
          rw [hb1] at hcr
          refine go ?_
          refine Ops.shr (j := 1) rfl rfl rfl (by decide) ?_
          rw [show cc >>> 1 = cc / 2 by rw [Nat.shiftRight_succ, Nat.shiftRight_zero]]
          refine go ?_
          refine Run.lp (Run.again (ihn (n, cc / 2) (by dsimp only; omega) ⟨by dsimp only; omega, by dsimp only; omega, hcr⟩) (.cons ?_ (.cons rfl (.cons rfl (.cons rfl (.cons rfl (.cons rfl (.cons rfl (.cons rfl .nil)))))))) (fun _ h => h))
          rw [show (8 : Int) - ((n : Nat) : Int) = 8 - ((n + 1 : Nat) : Int) + 1 by omega]; rfl
      · have : n = 0 := by omega
        subst this
        simp only [crcBits] at hcr
        subst hcr
        refine Run.exit rfl ?_
        refine go ?_
        exact Run.lp (Run.again ihj' (.cons rfl (.cons rfl (.cons rfl (.cons rfl (.cons rfl (.cons rfl (.cons rfl .nil))))))) (fun _ h => h))
    · have : j = bs.length := by omega
      subst this
      rw [List.take_length]
      refine Run.exit rfl ?_
      refine go ?_
      exact Run.lp (Run.again ih' (.cons rfl (.cons rfl (.cons rfl (.cons rfl .nil)))) (fun _ h => h))
  · have : i = bss.length := by omega
    subst this
    rw [List.take_length]
    refine Run.exit rfl ?_
    have hc := crcFold_lt bss.flatten (c := 4294967295) (by decide)
    refine go ?_
    refine Run.ret1 Tryz.func191 rfl rfl (fun h q => q) ⟨?_, rfl⟩
    unfold crcOf
    generalize bss.flatten.foldl crcByte 4294967295 = c at *
    have e1 : (BitVec.ofInt IntKind.u32.bits 4294967295).toNat = 4294967295 := bv_nat (w := 32) (n := 4294967295) (by decide)
    have e2 : (BitVec.ofInt IntKind.u32.bits (c : Int)).toNat = c := bv_nat (by simp [IntKind.bits]; omega)
    have e3 : IntKind.u32.max = 4294967295 := rfl
    congr 1
    simp only [IntKind.signed, Bool.false_eq_true, if_false, e3]
    rw [BitVec.toNat_xor, e1, e2, wrap_nat rfl (Nat.xor_lt_two_pow (by decide) (by simp [IntKind.bits]; omega)), Nat.xor_comm]
end Eng
end Go.Proofs.YtnfomoeicgdkkaaGreatDoor

/- A log, plainly. -/
set_option linter.unusedSimpArgs false
set_option linter.unusedVariables false
namespace Go.Proofs.YtnfomoeicgdkkaaGreatDoor

structure LogS where
  epoch : Nat
  top : Nat
  half : Nat
  pos : Nat
  list : List Bytes
  dead : Bool

/-- how many sectors each half has -/
def DiskS.hf (D : DiskS) : Nat := (D.kept.length - 2) / 2
/-- what a place shows -/
def DiskS.at_ (D : DiskS) (a : Nat) : Bytes := (DiskS.lastOf a D.cache).getD (D.kept.getD a [])

def sectorsOf (n : Nat) : Nat := (n + 78) / 63

/-- how a record begins -/
def hdrOf (seq epoch : Nat) (b : Bytes) : Bytes := le4 b.length ++ (le4 seq ++ (le4 epoch ++ (le4 (crcOf ((le4 seq ++ le4 epoch) ++ b)) ++ b)))
/-- the i-th sector of a record -/
def sectOf (all : Bytes) (i : Nat) : Bytes :=
  (if i = 0 then 2 else 3) :: ((all.drop (i * 63)).take 63 ++ List.replicate (63 - ((all.drop (i * 63)).take 63).length) 0)
def cutOf (seq epoch : Nat) (b : Bytes) : List Bytes := (List.range (sectorsOf b.length)).map (sectOf (hdrOf seq epoch b))

/-- sectors are written one behind the other, from a place on -/
def DiskS.put (D : DiskS) (at_ : Nat) : List Bytes → Int × DiskS
  | [] => (0, D)
  | s :: r => if (D.write at_ s).1 = 0 then (D.write at_ s).2.put (at_ + 1) r else D.write at_ s

/-- a step that is taken where that ahead of it was taken well -/
def andThen (x : Int × DiskS) (f : DiskS → Int × DiskS) : Int × DiskS := if x.1 = 0 then f x.2 else x

def LogS.base (L : LogS) (D : DiskS) (k : Nat) : Nat := 2 + L.half * D.hf + k

def LogS.keep (L : LogS) (D : DiskS) (ss : List Bytes) : Int × DiskS :=
  andThen (if 1 < ss.length then andThen (D.put (L.base D (L.pos + 1)) ss.tail) DiskS.flush else (0, D)) fun D =>
    andThen (D.put (L.base D L.pos) (ss.take 1)) DiskS.flush

theorem sectOf_len (all : Bytes) (i : Nat) : (sectOf all i).length = 64 := by
  unfold sectOf
  have : ((all.drop (i * 63)).take 63).length ≤ 63 := List.length_take_le _ _
  simp only [List.length_cons, List.length_append, List.length_replicate]; omega

theorem cutOf_all (seq epoch : Nat) (b : Bytes) : ∀ s ∈ cutOf seq epoch b, s.length = 64 := by
  intro s hs
  obtain ⟨i, _, rfl⟩ := List.mem_map.1 hs
  exact sectOf_len _ _

theorem cutOf_len (seq epoch : Nat) (b : Bytes) : (cutOf seq epoch b).length = sectorsOf b.length := by simp [cutOf]

theorem hdrOf_len (seq epoch : Nat) (b : Bytes) : (hdrOf seq epoch b).length = 16 + b.length := by
  simp only [hdrOf, List.length_append, le4_len]; omega

theorem DiskS.read_at {D : DiskS} (hd : D.down = false) {a : Nat} (ha : a < D.kept.length) : D.read a = (D.at_ a, 0) := by
  unfold DiskS.read DiskS.at_
  rw [if_neg (by simp [hd]), if_neg (by omega)]; rfl

namespace Eng

/-- bytes that are owned -/
def RowI (v : Value) (bs : Bytes) (G : List HA) : Prop := ∃ a c, v = .slice a bs.length c ∧ ((bs = [] ∧ G = []) ∨
  ∃ b o L T, a = some ⟨b, o, none⟩ ∧ o + bs.length ≤ L.length ∧ (L.drop o).take bs.length = bvs bs ∧ G = [.pt b (.cells (List.toArray L) T (0, 0))])

theorem RowI.rdB {v : Value} {bs : Bytes} {G : List HA} (h : RowI v bs G) {F : Hp} (k : Known G F) : RdB F v bs := by
  obtain ⟨a, c, rfl, ⟨h, _⟩ | ⟨b, o, L, T, ha, hl, ht, rfl⟩⟩ := h
  · exact ⟨a, c, rfl, .inl h⟩
  · exact ⟨a, c, rfl, .inr ⟨b, o, L, T, (0, 0), ha, k _ _ m0, hl, ht⟩⟩

theorem OwnI.row {a : Option Addr} {n c : Nat} {T : TypeId} {bs : Bytes} {G : List HA} (h : OwnI a n c 1 T (bvs bs) G) : n = bs.length ∧ RowI (.slice a n c) bs G := by
  obtain ⟨hl, h⟩ := h
  have hn : n = bs.length := by rw [bvs_len] at hl; omega
  subst hn
  refine ⟨rfl, a, c, rfl, ?_⟩
  rcases h with ⟨_, h, _, h2⟩ | ⟨b, sp, rfl, hc, hcap, rfl⟩
  · exact .inl ⟨List.length_eq_zero_iff.1 h, h2⟩
  · exact .inr ⟨b, 0, bvs bs ++ sp, T, rfl, by simp [bvs_len], by simp [← bvs_len bs], rfl⟩

/-- a front part of it -/
theorem OwnI.front {a : Option Addr} {n c m c' : Nat} {T : TypeId} {bs : Bytes} {G : List HA} (h : OwnI a n c 1 T (bvs bs) G) (hm : m ≤ bs.length) : ∀ h, seps G h → ∃ G', RowI (.slice a m c') (bs.take m) G' ∧ seps G' h := by
  intro w q
  obtain ⟨hl, h⟩ := h
  have hn : n = bs.length := by rw [bvs_len] at hl; omega
  subst hn
  have hlen : (bs.take m).length = m := by simp; omega
  rcases h with ⟨_, h, _, h2⟩ | ⟨b, sp, rfl, hc, hcap, rfl⟩
  · have : bs = [] := List.length_eq_zero_iff.1 h
    subst this
    have : m = 0 := by simpa using hm
    subst this
    exact ⟨[], ⟨a, c', rfl, .inl ⟨rfl, rfl⟩⟩, trivial⟩
  · refine ⟨_, ⟨_, c', by rw [hlen], .inr ⟨b, 0, bvs bs ++ sp, T, rfl, by rw [hlen]; simp [bvs_len]; omega, ?_, rfl⟩⟩, q⟩
    rw [hlen, List.drop_zero, List.take_append_of_le_length (by rw [bvs_len]; exact hm)]
    simp [bvs, List.map_take]

theorem RdB.showsN {F : Hp} {v : Value} {bs : Bytes} (h : RdB F v bs) {m : Nat} (hm : m ≤ bs.length) {H : List HA} : ∀ w h, seps H h → Fits F h w → Eng.shows w 1 m v (bvs (bs.take m)) := by
  intro w hh _ f
  obtain ⟨a, c, rfl, h | ⟨b, o, L, T, fz, rfl, hF, hl, ht⟩⟩ := h
  · subst h
    have : m = 0 := by simpa using hm
    subst this
    cases a with
    | none => rfl
    | some a => exact .inl ⟨rfl, rfl⟩
  · refine .inr ⟨rfl, L, T, fz, f.frm _ _ hF, by simp only [Nat.mul_one]; omega, ?_⟩
    rw [Nat.mul_one]
    have := congrArg (List.take m) ht
    rw [List.take_take, Nat.min_eq_left hm] at this
    rw [this]; simp [bvs, List.map_take]

/-- bytes in a known block, named by the list of all its cells -/
theorem rdB_at {F : Hp} {b o : Nat} {bs : Bytes} {T : TypeId} {fz : Nat × Nat} (hF : F b = some (.cells (bvs bs).toArray T fz)) (n : Nat) (hl : o + n ≤ bs.length) {a : Option Addr} {c : Nat} (ha : a = some ⟨b, o, none⟩ ∨ n = 0) :
    RdB F (.slice a n c) ((bs.drop o).take n) := by
  have hlen : ((bs.drop o).take n).length = n := by simp; omega
  refine ⟨a, c, by rw [hlen], ?_⟩
  rcases ha with ha | ha
  · exact .inr ⟨b, o, bvs bs, T, fz, ha, hF, by rw [hlen, bvs_len]; exact hl, by rw [hlen]; simp [bvs, List.map_take, List.map_drop]⟩
  · subst ha; exact .inl (by simp)

inductive RdsB (F : Hp) : List Value → List Bytes → Prop where
  | nil : RdsB F [] []
  | cons {v vs b bs} : RdB F v b → RdsB F vs bs → RdsB F (v :: vs) (b :: bs)

theorem RdsB.len {F : Hp} {vs : List Value} {bss : List Bytes} (h : RdsB F vs bss) : vs.length = bss.length := by
  induction h with
  | nil => rfl
  | cons _ _ ih => simp [ih]
theorem RdsB.get {F : Hp} {vs : List Value} {bss : List Bytes} (h : RdsB F vs bss) : ∀ (i : Nat) (bs : Bytes), bss[i]? = some bs → ∃ x : Value, vs[i]? = some x ∧ RdB F x bs := by
  induction h with
  | nil => intro i bs hi; simp at hi
  | cons hv _ ih =>
    intro i bs hi
    cases i with
    | zero => simp at hi; subst hi; exact ⟨_, rfl, hv⟩
    | succ i => exact ih i bs (by simpa using hi)
theorem RdsB.ext {F F' : Hp} (e : Ext F F') {vs : List Value} {bss : List Bytes} (h : RdsB F vs bss) : RdsB F' vs bss := by
  induction h with
  | nil => exact .nil
  | cons h _ ih => exact .cons (h.ext e) ih

theorem rdBB_mk {F : Hp} {b n c : Nat} {vs sp : List Value} {bss : List Bytes} {T : TypeId} {fz : Nat × Nat} (hF : F b = some (.cells (vs ++ sp).toArray T fz)) (h : RdsB F vs bss) (hn : n = bss.length) : RdBB F (.slice (some ⟨b, 0, none⟩) n c) bss := by
  subst hn
  refine ⟨_, c, rfl, .inr ⟨b, 0, vs ++ sp, T, fz, rfl, hF, by simp [h.len], fun i bs hi => ?_⟩⟩
  obtain ⟨x, hx, hr⟩ := h.get i bs hi
  refine ⟨x, ?_, hr⟩
  rw [Nat.zero_add, List.getElem?_append_left]
  · exact hx
  · rcases Nat.lt_or_ge i vs.length with g | g
    · exact g
    · rw [List.getElem?_eq_none g] at hx; cases hx

theorem rdBB_mk0 {F : Hp} {b n c : Nat} {vs : List Value} {bss : List Bytes} {T : TypeId} {fz : Nat × Nat} (hF : F b = some (.cells vs.toArray T fz)) (h : RdsB F vs bss) (hn : n = bss.length) : RdBB F (.slice (some ⟨b, 0, none⟩) n c) bss :=
  rdBB_mk (sp := []) (by simpa using hF) h hn

/-- sectors that can be read in the frame -/
def RdS (F : Hp) (v : Value) (ss : List Bytes) : Prop := ∃ a c, v = .slice a ss.length c ∧ ss.length ≤ c ∧ (∀ s ∈ ss, s.length = 64) ∧
  (ss = [] ∨ ∃ b o L T fz, a = some ⟨b, o, none⟩ ∧ F b = some (.cells (List.toArray L) T fz) ∧ o + ss.length * 64 ≤ L.length ∧ (L.drop o).take (ss.length * 64) = ss.flatMap bvs)

/-- rows, each of which is owned -/
inductive RowsI : List Value → List Bytes → List HA → Prop where
  | nil : RowsI [] [] []
  | cons {v vs b bs G Gs} : RowI v b G → RowsI vs bs Gs → RowsI (v :: vs) (b :: bs) (G ++ Gs)

theorem RowsI.len {vs : List Value} {bss : List Bytes} {G : List HA} (h : RowsI vs bss G) : vs.length = bss.length := by
  induction h with
  | nil => rfl
  | cons _ _ ih => simp [ih]
theorem Known.left {G H : List HA} {F : Hp} (k : Known (G ++ H) F) : Known G F := fun b o m => k b o (List.mem_append_left _ m)
theorem Known.right {G H : List HA} {F : Hp} (k : Known (G ++ H) F) : Known H F := fun b o m => k b o (List.mem_append_right _ m)
theorem Known.tail {x : HA} {H : List HA} {F : Hp} (k : Known (x :: H) F) : Known H F := fun b o m => k b o (.tail _ m)
theorem RowsI.rds {vs : List Value} {bss : List Bytes} {G : List HA} (h : RowsI vs bss G) {F : Hp} (k : Known G F) : RdsB F vs bss := by
  induction h with
  | nil => exact .nil
  | cons r _ ih => exact .cons (r.rdB k.left) (ih k.right)
theorem RowsI.snoc {vs : List Value} {bss : List Bytes} {G G2 : List HA} {v : Value} {b : Bytes} (h : RowsI vs bss G) (r : RowI v b G2) : RowsI (vs ++ [v]) (bss ++ [b]) (G ++ G2) := by
  induction h with
  | nil => simpa using RowsI.cons r .nil
  | cons q _ ih => simpa [List.append_assoc] using RowsI.cons q ih

def RowsP (vs : List Value) (bss : List Bytes) : HA := grp (RowsI vs bss)

def lcells (d : Nat) (L : LogS) (a : Option Addr) (n c : Nat) : List Value :=
  [.pointer (some ⟨d, 0, none⟩), .int .i64 L.epoch, .int .i64 L.top, .int .i64 L.half, .int .i64 L.pos, .slice a n c, .bool L.dead]

@[simp] theorem lcells_len (d : Nat) (L : LogS) (a : Option Addr) (n c : Nat) : (lcells d L a n c).length = 7 := rfl

/-- a log in memory -/
def LogI (l d : Nat) (L : LogS) (G : List HA) : Prop := ∃ a c vs, L.half ≤ 1 ∧ vs.length = L.list.length ∧ G =
  [.pt l (.cells (lcells d L a vs.length c).toArray 233 (0, 0)), OwnS a vs.length c 1 22 vs, RowsP vs L.list]
def LogP (l d : Nat) (L : LogS) : HA := grp (LogI l d L)

end Eng
end Go.Proofs.YtnfomoeicgdkkaaGreatDoor

/- The log's small functions. -/
set_option linter.unusedSimpArgs false
set_option linter.unusedVariables false
namespace Go.Proofs.YtnfomoeicgdkkaaGreatDoor
namespace Eng
attribute [local irreducible] Ops Segs Run Spec

section
variable {P : Program} {F : Hp} {l : Fr} {H : List HA} {C : Fr → List HA → Prop} {es : List EG} {i d : Nat} {c : Bool}

theorem bvs_ne {s : Bytes} (hs : s.length = 64) : bvs s ≠ [] := by intro h; have := congrArg List.length h; rw [bvs_len, hs] at this; cases this
/-- a sector is put into a new place -/
theorem Ops.stS {x y : Operand} {b : Nat} {T : TypeId} {s : Bytes} {H' : List HA} (hs : s.length = 64) (hx : get l x = some (.pointer (some ⟨b, 0, none⟩))) (hy : get l y = some (.agg (bvs s).toArray))
    (u : Upd H (.pt b (.cells zl64_intu80.toArray T (0, 0))) (.pt b (.cells (bvs s).toArray T (0, 0))) H')
    (k : Ops P F es l H' C) : Ops P F (EG.mk i none none false (.st x y 64) :: es) l H C := by
  refine Ops.stn0 (L := zl64_intu80) (T := T) (vs := bvs s) hx hy rfl (by rw [bvs_len, hs]) (bvs_one s) ?_ (by simp [zl64_intu80]) (bvs_ne hs) k
  have : List.take 0 zl64_intu80 ++ bvs s ++ List.drop (0 + 64) zl64_intu80 = bvs s := by simp [zl64_intu80]
  rw [this]; exact u
end

theorem at_len {D : DiskS} (hok : D.Ok) (hd : D.down = false) {a : Nat} (ha : a < D.kept.length) : (D.at_ a).length = 64 := by
  have := DiskS.read_len hok a
  rw [DiskS.read_at hd ha] at this; exact this

theorem log_half (d : Nat) (D : DiskS) (h2 : 2 ≤ D.kept.length ∧ D.kept.length ≤ 4096) (F : Hp) :
    Spec Tryz.prog 152 [.pointer (some ⟨d, 0, none⟩)].toArray F [DiskP d D] fun v H => v = .int .i64 D.hf ∧ H = [DiskP d D] := by
  refine Spec.enter (n := 7) Tryz.func152 ok_log_half rfl (by simp) ?_
  unfold ec_log_half
  simp only [argFr, Nat.reduceAdd]
  refine go ?_
  refine Ops.call1 rfl (.cons s0 .nil) (fun F' _ _ => disk_Len d D F') ?_
  rintro v G ⟨rfl, rfl⟩
  simp only [List.cons_append, List.nil_append]
  refine go ?_
  refine Run.ret1 Tryz.func152 rfl rfl (fun h q => q) ⟨?_, rfl⟩
  unfold DiskS.hf
  congr 1; omega

theorem log_sectors (n : Nat) (hn : n ≤ 1099511627776) (F : Hp) :
    Spec Tryz.prog 151 [.int .i64 n].toArray F [] fun v H => v = .int .i64 (sectorsOf n) ∧ H = [] := by
  refine Spec.enter (n := 8) Tryz.func151 ok_log_sectors rfl (by simp) ?_
  unfold ec_log_sectors
  simp only [argFr, Nat.reduceAdd]
  refine go ?_
  refine Run.ret1 Tryz.func151 rfl rfl (fun h q => q) ⟨?_, rfl⟩
  unfold sectorsOf
  congr 1; omega

theorem log_die (l d : Nat) (L : LogS) (a : Option Addr) (n c : Nat) (e : Int) (F : Hp) :
    Spec Tryz.prog 155 [.pointer (some ⟨l, 0, none⟩), .int .i64 e].toArray F [.pt l (.cells (lcells d L a n c).toArray 233 (0, 0))] fun v H =>
      v = .int .i64 e ∧ H = [.pt l (.cells (lcells d { L with dead := L.dead || decide (e ≠ 0) } a n c).toArray 233 (0, 0))] := by
  refine Spec.enter (n := 17) Tryz.func155 ok_log_Log_die rfl (by simp) ?_
  unfold ec_log_Log_die
  simp only [argFr, Nat.reduceAdd]
  unfold lcells
  cases hd : L.dead with
  | true =>
    refine go ?_
    exact Run.ret1 Tryz.func155 rfl rfl (fun h q => q) ⟨rfl, rfl⟩
  | false =>
    refine go ?_
    refine Run.ret1 Tryz.func155 rfl rfl (fun h q => q) ⟨rfl, ?_⟩
    simp [pickV]

theorem log_read (l d : Nat) (L : LogS) (a : Option Addr) (n c : Nat) (D : DiskS) (hd : D.down = false) (h2 : 2 ≤ D.kept.length ∧ D.kept.length ≤ 4096) (k : Nat) (hh : L.half ≤ 1) (hk : k < D.hf) (hok : D.Ok) (F : Hp)
    (hF : F l = some (.cells (lcells d L a n c).toArray 233 (0, 0))) :
    Spec Tryz.prog 195 [.pointer (some ⟨l, 0, none⟩), .int .i64 k].toArray F [DiskP d D] fun v H => v = .tuple [.agg (bvs (D.at_ (L.base D k))).toArray, .int .i64 0].toArray ∧ H = [DiskP d D] := by
  refine Spec.enter (n := 26) Tryz.func195 ok_log_Log_read rfl (by simp) ?_
  unfold ec_log_Log_read
  simp only [argFr, Nat.reduceAdd]
  refine Run.seq (Run.reg (Segs.oneS rfl (Ops.alloc fun b4 => ?_)))
  refine go ?_
  have hm : L.half * D.hf ≤ D.hf := by have := Nat.mul_le_mul_right D.hf hh; omega
  have hmi : (L.half : Int) * (D.hf : Int) = ((L.half * D.hf : Nat) : Int) := by push_cast; rfl
  have hf : D.hf * 2 + 2 ≤ D.kept.length := by unfold DiskS.hf; omega
  refine Segs.lend [_] (.cons s0 .nil) fun F1 x1 k1 => ?_
  refine go ?_
  refine Ops.ldF rfl (x1 _ _ hF) rfl ?_
  refine Ops.ldF rfl (x1 _ _ hF) rfl ?_
  refine Ops.ldF rfl (x1 _ _ hF) rfl ?_
  refine Ops.call1 rfl (.cons s0 .nil) (fun F' _ _ => log_half d D h2 F') ?_
  rintro v G ⟨rfl, rfl⟩
  simp only [List.cons_append, List.nil_append]
  refine Ops.mul rfl rfl ⟨by omega, by omega⟩ ?_
  refine go ?_
  have hb : (2 : Int) + (L.half : Int) * (D.hf : Int) + (k : Int) = ((L.base D k : Nat) : Int) := by unfold LogS.base; push_cast; rfl
  have hlt : L.base D k < D.kept.length := by unfold LogS.base; omega
  have hlen := at_len hok hd hlt
  rw [hb]
  refine Ops.call1 rfl (.cons s1 .nil) (fun F' _ _ => disk_Read d D _ F') ?_
  rintro v G ⟨rfl, rfl⟩
  rw [DiskS.read_at hd hlt]
  simp only [List.cons_append, List.nil_append]
  refine go ?_
  refine Ops.stS hlen rfl rfl u1 ?_
  refine go ?_
  exact Run.ret Tryz.func195 (rs := [.cell 4 235, .tmp 5]) rfl (.celln rfl sector_agg sector_info (.inl m1) (by rw [bvs_len, hlen]; exact Nat.le_refl 64) (.tmp rfl .nil)) (fun h q => take_sub (.cons s0 .nil) h q) ⟨by rw [List.drop_zero, List.take_of_length_le (by rw [bvs_len, hlen]; exact Nat.le_refl 64)]; rfl, rfl⟩

end Eng
end Go.Proofs.YtnfomoeicgdkkaaGreatDoor

/- The log: heads that are good; sectors that are written. -/
set_option linter.unusedSimpArgs false
set_option linter.unusedVariables false
namespace Go.Proofs.YtnfomoeicgdkkaaGreatDoor

theorem Rd.num_range {most : Int} (h0 : 0 ≤ most) (R : Rd) : 0 ≤ (R.num most).1 ∧ (R.num most).1 ≤ most := by
  obtain ⟨b, bad⟩ := R
  unfold Rd.num
  split
  · split
    · exact ⟨Int.le_refl _, h0⟩
    · exact ⟨by simp only; omega, by simp only; omega⟩
  · exact ⟨Int.le_refl _, h0⟩
theorem Rd.num_len {most : Int} (R : Rd) : (R.num most).2.b.length ≤ R.b.length := by
  obtain ⟨b, bad⟩ := R
  unfold Rd.num
  split
  · rename_i h
    cases h
    split
    · exact Nat.zero_le _
    · simp only [List.length_cons]; omega
  · exact Nat.zero_le _

/-- a head's epoch -/
def goodOf (s : Bytes) : Int × Bool :=
  if s = List.replicate 64 0 then (0, false) else
    (((⟨(s.drop 1).take 8, false⟩ : Rd).num 2147483648).1, decide (s[0]? = some 1) && decide ((((⟨(s.drop 1).take 8, false⟩ : Rd).num 2147483648).2.num 4294967295).1 = crcOf (s.take 5)))

theorem eq_bytes (s t : Bytes) : ((s.map fun b => (b.toNat : Int)) == (t.map fun b => (b.toNat : Int))) = decide (s = t) := by
  by_cases h : s = t
  · subst h; simp
  · have : ¬ (s.map fun b => (b.toNat : Int)) = (t.map fun b => (b.toNat : Int)) := by
      intro e
      refine h (List.map_inj_right (f := fun b : UInt8 => (b.toNat : Int)) ?_ |>.1 e)
      intro x y e
      exact UInt8.toNat_inj.1 (by omega)
    simp [h, this]

theorem bvs_ints (s : Bytes) : bvs s = (s.map fun b => (b.toNat : Int)).map (Value.int .u8) := by
  simp [bvs, bv, Function.comp_def]

namespace Eng
attribute [local irreducible] Ops Segs Run Spec

theorem log_good (l : Value) (s : Bytes) (hs : s.length = 64) (F : Hp) :
    Spec Tryz.prog 134 [l, .agg (bvs s).toArray].toArray F [] fun v H => v = .tuple [.int .i64 (goodOf s).1, .bool (goodOf s).2].toArray ∧ H = [] := by
  refine Spec.enter (n := 30) Tryz.func134 ok_log_Log_good rfl (by simp) ?_
  unfold ec_log_Log_good
  simp only [argFr, Nat.reduceAdd]
  refine Run.seq (Run.reg (Segs.oneS rfl (Ops.box rfl rfl fun b3 => ?_)))
  simp only [vcells]
  refine go ?_
  refine Ops.ldn rfl m0 (by rw [bvs_len, hs]; exact Nat.le_refl 64) ?_
  refine Ops.bld zl64_intu80 rfl rfl ?_
  rw [List.drop_zero, List.take_of_length_le (show (bvs s).length ≤ 64 by rw [bvs_len, hs]; exact Nat.le_refl 64)]
  refine Ops.eqa (s.map fun b => (b.toNat : Int)) ((List.replicate 64 (0 : UInt8)).map fun b => (b.toNat : Int)) (by rw [bvs_ints]; rfl) rfl (by simp [hs]) (by simp) ?_
  rw [eq_bytes]
  refine go ?_
  unfold goodOf
  refine Run.condD rfl (fun hz => ?_) (fun hz => ?_)
  · rw [if_pos hz]
    refine go ?_
    exact Run.ret2 Tryz.func134 rfl rfl rfl (fun h q => take_sub .nil h q) ⟨rfl, rfl⟩
  rw [if_neg hz]
  refine Run.lendD [_] (.cons s0 .nil) fun F1 x1 k1 => ?_
  have hF := k1 _ _ m0
  refine go ?_
  refine Ops.slA (l1 := 1) (h1 := 9) rfl rfl rfl (by omega) (by omega) fun a1 ha1 => ?_
  simp only [Nat.reduceSub, Nat.reduceMul, Nat.reduceAdd] at ha1 ⊢
  have hr1 := rdB_at hF 8 (o := 1) (by omega) (a := a1) (c := 63) (ha1.imp id (by omega))
  refine Ops.call1 rfl .nil (fun F' e _ => rec_Read _ _ F' (hr1.ext e) (by simp; omega)) ?_
  rintro v G ⟨r, rfl, rfl⟩
  simp only [List.cons_append, List.nil_append]
  refine go ?_
  refine Ops.call1 rfl (.cons s0 .nil) (fun F' e _ => rec_Reader_Num r _ _ (by simp; omega) F') ?_
  rintro v G ⟨rfl, rfl⟩
  simp only [List.cons_append, List.nil_append]
  have hl1 := Rd.num_len (most := 2147483648) ⟨(s.drop 1).take 8, false⟩
  refine go ?_
  refine Ops.call1 rfl (.cons s0 .nil) (fun F' e _ => rec_Reader_Num r _ _ (by simp at hl1 ⊢; omega) F') ?_
  rintro v G ⟨rfl, rfl⟩
  simp only [List.cons_append, List.nil_append]
  have hg := Rd.num_range (most := 4294967295) (by omega) ((⟨(s.drop 1).take 8, false⟩ : Rd).num 2147483648).2
  generalize (((⟨(s.drop 1).take 8, false⟩ : Rd).num 2147483648).2.num 4294967295) = r2 at *
  generalize (⟨(s.drop 1).take 8, false⟩ : Rd).num 2147483648 = r1 at *
  refine go ?_
  refine Ops.ixA rfl rfl ⟨by omega, by omega⟩ ?_
  obtain ⟨s0', sr, rfl⟩ : ∃ a r, s = a :: r := by cases s with | nil => simp at hs | cons a r => exact ⟨a, r, rfl⟩
  refine Ops.ldF (v := bv s0') rfl hF rfl ?_
  have hb0 : decide ((s0'.toNat : Int) = 1) = decide ((s0' :: sr)[0]? = some 1) := by
    simp only [List.getElem?_cons_zero, Option.some.injEq]
    congr 1
    refine propext ⟨fun e => UInt8.toNat_inj.1 (by rw [show (1 : UInt8).toNat = 1 from rfl]; omega), fun e => by subst e; rfl⟩
  unfold bv
  refine go ?_
  rw [hb0]
  by_cases h0 : (s0' :: sr)[0]? = some 1
  · simp only [h0, decide_true]
    refine go ?_
    refine Ops.pE (v' := .int .u32 r2.1) rfl (by rw [wrap_u32 (by omega) (by omega)]) ?_
    refine go ?_
    refine Ops.slA (l1 := 0) (h1 := 5) rfl rfl rfl (by omega) (by omega) fun a2 ha2 => ?_
    simp only [Nat.reduceSub, Nat.reduceMul, Nat.reduceAdd] at ha2 ⊢
    have hr2 := rdB_at hF 5 (o := 0) (by omega) (a := a2) (c := 64) (ha2.imp id (by omega))
    refine go ?_
    refine Ops.lit [.slice a2 5 64] rfl rfl fun b => ?_
    refine go ?_
    refine Ops.call1 rfl .nil (fun F' e kn => crc_Of _ [_] F' (rdBB_mk0 (kn _ _ m0) (.cons (hr2.ext e) .nil) rfl) (by simp) (by simp; omega)) ?_
    rintro v G ⟨rfl, rfl⟩
    simp only [List.cons_append, List.nil_append]
    refine go ?_
    refine Run.ret2 Tryz.func134 rfl rfl rfl (fun h q => take_sub .nil h q) ⟨?_, rfl⟩
    simp [pickV]
    exact decide_eq_decide.2 Iff.rfl
  · simp only [h0, decide_false]
    refine go ?_
    refine Run.ret2 Tryz.func134 rfl rfl rfl (fun h q => take_sub .nil h q) ⟨?_, rfl⟩
    simp [pickV]
    rfl
end Eng
end Go.Proofs.YtnfomoeicgdkkaaGreatDoor

/- The log: sectors are written. -/
set_option linter.unusedSimpArgs false
set_option linter.unusedVariables false
namespace Go.Proofs.YtnfomoeicgdkkaaGreatDoor

namespace DiskS
theorem step_cache (D : DiskS) : D.step.2.cache.length ≤ D.cache.length := by
  unfold DiskS.step
  split
  · split
    · exact Nat.zero_le _
    · exact Nat.le_refl _
  · exact Nat.le_refl _
theorem write_cache (D : DiskS) (a : Int) (s : Bytes) : (D.write a s).2.cache.length ≤ D.cache.length + 1 := by
  unfold DiskS.write
  split
  · exact Nat.le_succ _
  · split
    · exact Nat.le_succ _
    · have := step_cache { D with cache := D.cache ++ [(a.toNat, s)] }
      simpa using this
theorem flush_cache (D : DiskS) : (D.flush).2.cache.length ≤ D.cache.length := by
  unfold DiskS.flush
  split
  · exact Nat.le_refl _
  · simp only
    split
    · exact Nat.zero_le _
    · exact step_cache D
theorem write_kept_len (D : DiskS) (a : Int) (s : Bytes) : (D.write a s).2.kept.length = D.kept.length := by
  unfold DiskS.write
  split
  · rfl
  · split
    · rfl
    · exact step_kept_len _
theorem flush_kept_len (D : DiskS) : (D.flush).2.kept.length = D.kept.length := by
  unfold DiskS.flush
  split
  · rfl
  · simp only
    split
    · simp only [keepAll_len]; exact step_kept_len D
    · exact step_kept_len D

theorem put_spec : ∀ (ss : List Bytes) (D : DiskS) (a : Nat), D.Ok → (∀ s ∈ ss, s.length = 64) → D.cache.length + ss.length ≤ 1099511627776 →
    (D.put a ss).2.Ok ∧ (D.put a ss).2.kept.length = D.kept.length ∧ (D.put a ss).2.cache.length ≤ D.cache.length + ss.length := by
  intro ss
  induction ss with
  | nil => intro D a h _ _; exact ⟨h, rfl, Nat.le_refl _⟩
  | cons s ss ih =>
    intro D a h hs hc
    simp only [List.length_cons] at hc
    have hw := h.write (by omega) a (hs s (.head _))
    have hcw := write_cache D a s
    have hk := write_kept_len D a s
    simp only [put, List.length_cons]
    split
    · obtain ⟨h1, h2, h3⟩ := ih (D.write a s).2 (a + 1) hw (fun x hx => hs x (.tail _ hx)) (by omega)
      exact ⟨h1, by omega, by omega⟩
    · exact ⟨hw, hk, by omega⟩
end DiskS

namespace Eng
attribute [local irreducible] Ops Segs Run Spec

theorem log_put (l d : Nat) (L : LogS) (a : Option Addr) (n c : Nat) (D : DiskS) (hok : D.Ok) (h2 : 2 ≤ D.kept.length) (hh : L.half ≤ 1) (k : Nat) (hk : k ≤ 1099511627776) (v : Value) (ss : List Bytes)
    (hc : D.cache.length + ss.length ≤ 1099511627776) (F : Hp) (hr : RdS F v ss) (hF : F l = some (.cells (lcells d L a n c).toArray 233 (0, 0))) :
    Spec Tryz.prog 192 [.pointer (some ⟨l, 0, none⟩), .int .i64 k, v].toArray F [DiskP d D] fun v H => v = .int .i64 (D.put (L.base D k) ss).1 ∧ H = [DiskP d (D.put (L.base D k) ss).2] := by
  refine Spec.enter (n := 42) Tryz.func192 ok_log_Log_put rfl (by simp) ?_
  unfold ec_log_Log_put
  simp only [argFr, Nat.reduceAdd]
  obtain ⟨oa, oc, rfl, hoc, h64, hr⟩ := hr
  have hsz := hok.size
  refine go ?_
  refine Run.loopI (ι := Nat × DiskS) (fun x => ss.length - x.1) (fun x => x.1 ≤ ss.length ∧ x.2.Ok ∧ x.2.kept.length = D.kept.length ∧ x.2.cache.length ≤ D.cache.length + x.1 ∧ D.put (L.base D k) ss = x.2.put (L.base D k + x.1) (ss.drop x.1))
    (fun x => [(12, .int .i64 x.1), (11, .int .i64 ss.length), (10, .slice oa ss.length oc), (1, .int .i64 k), (0, .pointer (some ⟨l, 0, none⟩))]) (fun x => [DiskP d x.2])
    (0, D) ⟨Nat.zero_le _, hok, rfl, Nat.le_refl _, rfl⟩ (.cons rfl (.cons rfl (.cons rfl (.cons rfl (.cons rfl .nil))))) (fun _ h => h) ?_
  rintro ⟨i, D'⟩ ⟨hi, hok', hkl, hcl, hput⟩ ih
  dsimp only at hi hok' hkl hcl hput ih ⊢
  unfold ec_log_Log_put_L0
  refine go ?_
  refine Run.condD rfl (fun hlt => ?_) (fun hge => ?_)
  · have hlt' : i < ss.length := by omega
    rcases hr with hr | ⟨ob, o, La, T, fz, rfl, hFs, hl, hrd⟩
    · rw [hr] at hlt'; simp at hlt'
    have hel : ss[i]? = some ss[i] := List.getElem?_eq_getElem hlt'
    have hs := h64 _ (List.getElem_mem hlt')
    have hdrop : ss.drop i = ss[i] :: ss.drop (i + 1) := List.drop_eq_getElem_cons hlt'
    have hget : (La.drop (o + i * 64)).take 64 = bvs ss[i] := by
      have h1 := flat_get ss [] i _ (fun s hs => by rw [bvs_len, h64 s hs]) hel
      rw [List.append_nil, ← hrd, List.drop_take, List.drop_drop, List.take_take] at h1
      rw [← h1]; congr 1
      have := Nat.mul_le_mul_right 64 (show i + 1 ≤ ss.length by omega); omega
    have hlen : o + i * 64 + 64 ≤ La.length := by have := Nat.mul_le_mul_right 64 (show i + 1 ≤ ss.length by omega); omega
    generalize ss[i] = s at *
    refine go ?_
    refine Ops.ixS rfl rfl ⟨by omega, by omega⟩ ?_
    simp only [Int.toNat_natCast]
    refine Ops.ldnF rfl hFs hlen ?_
    rw [hget]
    refine Ops.alloc fun b8 => ?_
    refine go ?_
    refine Ops.stS hs rfl rfl u0 ?_
    refine go ?_
    refine Segs.lend [_] (.cons s0 .nil) fun F1 x1 k1 => ?_
    refine go ?_
    refine Ops.ldF rfl (x1 _ _ hF) rfl ?_
    refine Ops.ldF rfl (x1 _ _ hF) rfl ?_
    refine Ops.ldF rfl (x1 _ _ hF) rfl ?_
    refine Ops.ldnF rfl (k1 _ _ m0) (by rw [bvs_len, hs]; exact Nat.le_refl 64) ?_
    rw [List.drop_zero, List.take_of_length_le (show (bvs s).length ≤ 64 by rw [bvs_len, hs]; exact Nat.le_refl 64)]
    refine Ops.call1 rfl (.cons s0 .nil) (fun F' _ _ => log_half d D' (by omega) F') ?_
    rintro v G ⟨rfl, rfl⟩
    simp only [List.cons_append, List.nil_append]
    have hm : L.half * D'.hf ≤ D'.hf := by have := Nat.mul_le_mul_right D'.hf hh; omega
    have hmi : (L.half : Int) * (D'.hf : Int) = ((L.half * D'.hf : Nat) : Int) := by push_cast; rfl
    have hf : D'.hf * 2 + 2 ≤ D'.kept.length := by unfold DiskS.hf; omega
    have hhf : D'.hf = D.hf := by unfold DiskS.hf; rw [hkl]
    refine Ops.mul rfl rfl ⟨by omega, by omega⟩ ?_
    refine go ?_
    have hb : (2 : Int) + (L.half : Int) * (D'.hf : Int) + (k : Int) + (i : Int) = ((L.base D k + i : Nat) : Int) := by unfold LogS.base; rw [hhf]; push_cast; rfl
    rw [hb]
    refine Ops.call1 rfl (.cons s1 .nil) (fun F' _ _ => disk_Write d D' (by omega) _ s hs F') ?_
    rintro v G ⟨rfl, rfl⟩
    simp only [List.cons_append, List.nil_append]
    rw [hdrop] at hput
    simp only [DiskS.put] at hput
    have hw := hok'.write (by omega) (L.base D k + i : Nat) hs
    have hcw := DiskS.write_cache D' (L.base D k + i : Nat) s
    have hkw := DiskS.write_kept_len D' (L.base D k + i : Nat) s
    refine go ?_
    generalize D'.write (L.base D k + i : Nat) s = r at *
    by_cases he : r.1 = 0
    · rw [if_pos he] at hput
      refine Run.condF (by simp [he, get, look]) ?_
      refine go ?_
      refine Run.lp (Run.again (ih (i + 1, r.2) (by dsimp only; omega) ⟨by dsimp only; omega, hw, by dsimp only; omega, by dsimp only; omega, by dsimp only; rw [hput, Nat.add_assoc]⟩) (.cons rfl (.cons rfl (.cons rfl (.cons rfl (.cons rfl .nil))))) (fun h q => take_sub (.cons s0 .nil) h q))
    · rw [if_neg he] at hput
      refine Run.condT (by simp [he, get, look]) ?_
      refine go ?_
      exact Run.ret1 Tryz.func192 rfl rfl (fun h q => take_sub (.cons s0 .nil) h q) ⟨by rw [hput], by rw [hput]⟩
  · have : i = ss.length := by omega
    subst this
    rw [List.drop_length] at hput
    simp only [DiskS.put] at hput
    refine Run.exit rfl ?_
    refine go ?_
    exact Run.ret1 Tryz.func192 rfl rfl (fun h q => q) ⟨by rw [hput], by rw [hput]⟩
end Eng
end Go.Proofs.YtnfomoeicgdkkaaGreatDoor

/- The log: a record's sectors. -/
set_option linter.unusedSimpArgs false
set_option linter.unusedVariables false
namespace Go.Proofs.YtnfomoeicgdkkaaGreatDoor

open Eng in
theorem zerosL_len (k : Nat) : zerosL Eng.zl64_intu80 k = List.replicate (k * 64) (Value.int .u8 0) := by
  induction k with
  | zero => simp [zerosL]
  | succ k ih =>
    simp only [zerosL, List.replicate_succ, List.flatten_cons] at ih ⊢
    rw [ih, Nat.add_mul, Nat.one_mul, Nat.add_comm (k * 64) 64, ← List.replicate_append_replicate]
    rfl

theorem splice_at {A Z vs : List Value} {n : Nat} (hA : A.length = n) : (A ++ Z).take n ++ vs ++ (A ++ Z).drop (n + vs.length) = A ++ (vs ++ Z.drop vs.length) := by
  rw [← hA, List.take_left, List.drop_append, List.append_assoc]
  have : A.drop (A.length + vs.length) = [] := List.drop_eq_nil_of_le (by omega)
  rw [this, List.nil_append, Nat.add_sub_cancel_left]

theorem take_min (bs : Bytes) (k : Nat) : bs.take (Nat.min bs.length k) = bs.take k := by
  rcases Nat.le_total bs.length k with h | h
  · rw [show Nat.min bs.length k = bs.length from Nat.min_eq_left h, List.take_length, List.take_of_length_le h]
  · rw [show Nat.min bs.length k = k from Nat.min_eq_right h]

theorem drop_min (bs : Bytes) (k : Nat) : bs.drop (Nat.min bs.length k) = bs.drop k := by
  rcases Nat.le_total bs.length k with h | h
  · rw [show Nat.min bs.length k = bs.length from Nat.min_eq_left h, List.drop_length, List.drop_eq_nil_of_le h]
  · rw [show Nat.min bs.length k = k from Nat.min_eq_right h]

theorem bvs_rep (n : Nat) : List.replicate n (Value.int .u8 0) = bvs (List.replicate n 0) := by
  simp [bvs, bv]

namespace Eng
theorem Spec.openS {P : Program} {f : FuncId} {args : Array Value} {F : Hp} {Pre : List HA} {n s : Nat} {T : TypeId} {xs : List Value}
    (q : Spec P f args F Pre (fun v H => ∃ a c, v = .slice a n c ∧ H = [OwnS a n c s T xs])) : Spec P f args F Pre (fun v H => ∃ a c, v = .slice a n c ∧ OwnI a n c s T xs H) := by
  intro w h p k
  refine (q w h p k).mono ?_
  rintro e w' ⟨v, H', h', he, ⟨a, c, hv, rfl⟩, q', k', kp⟩
  obtain ⟨x, y, sp, ⟨G, hG, qG⟩, _⟩ := q'
  exact ⟨v, G, h', he, ⟨a, c, hv, hG⟩, seps_up qG sp.symm, k', kp⟩

theorem seps_left {A B : List HA} : ∀ h, seps (A ++ B) h → seps (A ++ []) h := by
  intro h q
  obtain ⟨x, y, sp, qx, _⟩ := seps_append.1 q
  rw [List.append_nil]; exact seps_up qx sp.symm

theorem le4_rdB {F : Hp} {b n : Nat} {T : TypeId} {fz : Nat × Nat} (hF : F b = some (.cells (bvs (le4 n)).toArray T fz)) : RdB F (.slice (some ⟨b, 0, none⟩) 4 4) (le4 n) :=
  rdB_at hF 4 (o := 0) (Nat.le_refl 4) (.inl rfl)

theorem RdB.drop {F : Hp} {b o n c c' k : Nat} {a' : Option Addr} {bs : Bytes} (h : RdB F (.slice (some ⟨b, o, none⟩) n c) bs) (hk : k ≤ bs.length) (ha : a' = some ⟨b, o + k * 1, none⟩ ∨ n - k = 0) : RdB F (.slice a' (n - k) c') (bs.drop k) := by
  obtain ⟨a, c0, he, h⟩ := h
  cases he
  refine ⟨a', c', by rw [List.length_drop], ?_⟩
  by_cases h0 : bs.length - k = 0
  · exact .inl (List.drop_eq_nil_of_le (by omega))
  rcases h with h | ⟨b', o', L, T, fz, he, hF, hl, ht⟩
  · subst h; simp at h0
  · cases he
    rcases ha with ha | ha
    · refine .inr ⟨b, o + k * 1, L, T, fz, ha, hF, by rw [List.length_drop]; omega, ?_⟩
      have := congrArg (List.drop k) ht
      rw [List.drop_take, List.drop_drop] at this
      rw [List.length_drop, Nat.mul_one, this]; simp [bvs, List.map_drop]
    · omega

theorem OwnI.cap {a : Option Addr} {n c s : Nat} {T : TypeId} {xs : List Value} {G : List HA} (h : OwnI a n c s T xs G) : n ≤ c := by
  obtain ⟨_, ⟨_, h1, h2, _⟩ | ⟨_, _, _, h, _⟩⟩ := h
  · omega
  · exact h

theorem sect_step {A Z : List Value} {all : Bytes} {i : Nat} {m : Value} (hA : A.length = i * 64) (hm : m = bv (if i = 0 then 2 else 3)) :
    (A ++ m :: (List.replicate 63 (Value.int .u8 0) ++ Z)).take (i * 64 + 1) ++ bvs ((all.drop (i * 63)).take 63) ++ (A ++ m :: (List.replicate 63 (Value.int .u8 0) ++ Z)).drop (i * 64 + 1 + (bvs ((all.drop (i * 63)).take 63)).length) = A ++ bvs (sectOf all i) ++ Z := by
  have e : A ++ m :: (List.replicate 63 (Value.int .u8 0) ++ Z) = (A ++ [m]) ++ (List.replicate 63 (Value.int .u8 0) ++ Z) := by simp
  have hk : (bvs ((all.drop (i * 63)).take 63)).length ≤ 63 := by rw [bvs_len]; exact List.length_take_le _ _
  rw [e, splice_at (by simp [hA]), List.drop_append_of_le_length (by simpa using hk), List.drop_replicate]
  unfold sectOf
  rw [bvs_len, bvs_rep]
  simp only [bvs, List.map_cons, List.map_append, List.append_assoc, List.cons_append, List.nil_append]
  rw [hm]

attribute [local irreducible] Ops Segs Run Spec

set_option maxHeartbeats 400000 in
theorem log_cut (l d : Nat) (L : LogS) (a : Option Addr) (n c : Nat) (he : L.epoch < 4294967296) (seq : Nat) (hs : seq < 4294967296) (v : Value) (b : Bytes) (hb : b.length ≤ 1048576) (F : Hp) (hr : RdB F v b)
    (hF : F l = some (.cells (lcells d L a n c).toArray 233 (0, 0))) :
    Spec Tryz.prog 154 [.pointer (some ⟨l, 0, none⟩), .int .i64 seq, v].toArray F [] fun v H =>
      ∃ o, v = .slice (some ⟨o, 0, none⟩) (sectorsOf b.length) (sectorsOf b.length) ∧ H = [.pt o (.cells ((cutOf seq L.epoch b).flatMap bvs).toArray 235 (0, 0))] := by
  have hr' := hr
  obtain ⟨oa, oc, rfl, _⟩ := hr'
  refine Spec.enter (n := 68) Tryz.func154 ok_log_Log_cut rfl (by simp) ?_
  unfold ec_log_Log_cut
  simp only [argFr, Nat.reduceAdd]
  refine go ?_
  refine Segs.lend [] .nil fun F1 x1 k1 => ?_
  refine go ?_
  refine Ops.ldF rfl (x1 _ _ hF) rfl ?_
  refine Ops.call1 rfl .nil (fun F' _ _ => rec_Num seq hs F') ?_
  rintro v1 G ⟨b1, rfl, rfl⟩
  simp only [List.cons_append, List.nil_append]
  refine Ops.nil (Segs.oneS rfl ?_)
  refine Ops.call1 rfl .nil (fun F' _ _ => rec_Num L.epoch he F') ?_
  rintro v1 G ⟨b2, rfl, rfl⟩
  simp only [List.cons_append, List.nil_append]
  refine go ?_
  refine Ops.lit [.slice (some ⟨b1, 0, none⟩) 4 4, .slice (some ⟨b2, 0, none⟩) 4 4] rfl rfl fun b3 => ?_
  refine go ?_
  refine Ops.call1 rfl .nil (fun F' e kn => (rec_Pack _ [le4 seq, le4 L.epoch] F' (rdBB_mk0 (kn _ _ m0) (.cons (le4_rdB (kn _ _ m2)) (.cons (le4_rdB (kn _ _ m1)) .nil)) rfl) (by simp) (by simp [le4_len])).openS) ?_
  rintro v1 G1 ⟨a1, c1, rfl, hG1⟩
  obtain ⟨hn1, hrow1⟩ := hG1.row
  refine Ops.nil (Segs.oneS rfl ?_)
  refine Ops.lit [_, _] rfl rfl fun b4 => ?_
  refine go ?_
  refine Ops.call1 rfl .nil (fun F' e kn => crc_Of _ [_, b] F' (rdBB_mk0 (kn _ _ m0) (.cons (hrow1.rdB kn.tail.left) (.cons (hr.ext e) .nil)) rfl) (by simp) (by simp [le4_len]; omega)) ?_
  rintro v1 G ⟨rfl, rfl⟩
  have hsum : crcOf [[le4 seq, le4 L.epoch].flatten, b].flatten = crcOf ((le4 seq ++ le4 L.epoch) ++ b) := by simp
  rw [hsum]
  have hsl := crcOf_lt ((le4 seq ++ le4 L.epoch) ++ b)
  generalize hsume : crcOf ((le4 seq ++ le4 L.epoch) ++ b) = sum at *
  refine Ops.nil (Segs.oneS rfl ?_)
  refine go1 ?_
  refine Ops.nil (Segs.nil (Run.conseq (H' := []) (fun h _ => trivial) (Run.sub (l' := [(7, .int .u32 sum), (0, .pointer (some ⟨l, 0, none⟩)), (1, .int .i64 seq), (2, .slice oa b.length oc)]) (.cons rfl (.cons rfl (.cons rfl (.cons rfl .nil)))) ?_)))
  clear hG1 hn1 hrow1 hsum k1 x1
  clear G1 a1 c1 b1 b2 b3 b4 F1
  refine Run.seq (Run.reg (Segs.lend [] .nil fun F1 x1 k1 => ?_))
  refine go ?_
  refine Ops.pE (v' := .int .i64 sum) rfl (by rw [wrap_i64 (by omega) (by omega)]) ?_
  refine go ?_
  refine Ops.ldF rfl (x1 _ _ hF) rfl ?_
  refine Ops.call1 rfl .nil (fun F' _ _ => rec_Num b.length (by omega) F') ?_
  rintro v1 G ⟨b1, rfl, rfl⟩
  simp only [List.cons_append, List.nil_append]
  refine Ops.call1 rfl .nil (fun F' _ _ => rec_Num seq hs F') ?_
  rintro v1 G ⟨b2, rfl, rfl⟩
  simp only [List.cons_append, List.nil_append]
  refine Ops.nil (Segs.oneS rfl ?_)
  refine Ops.call1 rfl .nil (fun F' _ _ => rec_Num L.epoch he F') ?_
  rintro v1 G ⟨b3, rfl, rfl⟩
  simp only [List.cons_append, List.nil_append]
  refine Ops.nil (Segs.oneS rfl ?_)
  refine Ops.call1 rfl .nil (fun F' _ _ => rec_Num sum hsl F') ?_
  rintro v1 G ⟨b4, rfl, rfl⟩
  simp only [List.cons_append, List.nil_append]
  refine Ops.nil (Segs.oneS rfl ?_)
  refine Ops.lit [.slice (some ⟨b1, 0, none⟩) 4 4, .slice (some ⟨b2, 0, none⟩) 4 4, .slice (some ⟨b3, 0, none⟩) 4 4, .slice (some ⟨b4, 0, none⟩) 4 4, _] rfl rfl fun b5 => ?_
  refine Ops.nil (Segs.oneS rfl ?_)
  refine Ops.call1 rfl .nil (fun F' e kn => (rec_Pack _ [le4 b.length, le4 seq, le4 L.epoch, le4 sum, b] F' (rdBB_mk0 (kn _ _ m0) (.cons (le4_rdB (kn _ _ m4)) (.cons (le4_rdB (kn _ _ m3)) (.cons (le4_rdB (kn _ _ m2)) (.cons (le4_rdB (kn _ _ m1)) (.cons (hr.ext e) .nil))))) rfl) (by simp) (by simp [le4_len]; omega)).openS) ?_
  rintro v1 G1 ⟨a1, c1, rfl, hG1⟩
  have hall : [le4 b.length, le4 seq, le4 L.epoch, le4 sum, b].flatten = hdrOf seq L.epoch b := by simp only [List.flatten_cons, List.flatten_nil, List.append_nil, hdrOf, hsume]
  rw [hall] at hG1 ⊢
  have hallL := hdrOf_len seq L.epoch b
  obtain ⟨_, hrow1⟩ := hG1.row
  have hcutE : cutOf seq L.epoch b = (List.range (sectorsOf b.length)).map (sectOf (hdrOf seq L.epoch b)) := rfl
  generalize hdrOf seq L.epoch b = all at *
  refine Ops.nil (Segs.oneS rfl ?_)
  refine go1 ?_
  refine Ops.nil (Segs.nil ?_)
  refine Run.conseq seps_left (Run.lendD G1 (take_app G1 []) fun F2 x2 k2 => ?_)
  have hrall := hrow1.rdB k2
  have hcap := hG1.cap
  clear hrow1 hG1 k2 k1 hall
  have hF2 := hF
  refine go ?_
  refine Ops.call1 rfl .nil (fun F' _ _ => log_sectors b.length (by omega) F') ?_
  rintro v1 G ⟨rfl, rfl⟩
  simp only [List.cons_append, List.nil_append]
  have hsn : sectorsOf b.length * 63 ≤ b.length + 78 ∧ b.length + 16 ≤ sectorsOf b.length * 63 := by unfold sectorsOf; omega
  generalize sectorsOf b.length = ns at *
  refine Ops.mks rfl rfl (by omega) (by omega) (by omega) fun b6 => ?_
  simp only [Int.toNat_natCast, zerosL_len]
  refine go ?_
  refine Run.loopI (ι := Nat × Option Addr × Nat) (fun x => ns - x.1) (fun x => x.1 ≤ ns ∧ RdB F2 (.slice x.2.1 (all.drop (x.1 * 63)).length x.2.2) (all.drop (x.1 * 63)) ∧ (all.drop (x.1 * 63)).length ≤ x.2.2)
    (fun x => [(45, .int .i64 x.1), (44, .int .i64 ns), (9, .slice (some ⟨b6, 0, none⟩) ns ns), (8, .slice x.2.1 (all.drop (x.1 * 63)).length x.2.2)])
    (fun x => [.pt b6 (.cells (((List.range x.1).map (sectOf all)).flatMap bvs ++ List.replicate ((ns - x.1) * 64) (Value.int .u8 0)).toArray 235 (0, 0))])
    (0, a1, c1) ⟨Nat.zero_le _, by simpa using hrall, by simpa using hcap⟩ (.cons rfl (.cons rfl (.cons rfl (.cons rfl .nil)))) (fun _ h => by simpa using h) ?_
  rintro ⟨i, a2, c2⟩ ⟨hi, hrd, hcp⟩ ih
  dsimp only at hi hrd hcp ih ⊢
  unfold ec_log_Log_cut_L0
  refine go ?_
  refine Run.condD rfl (fun hlt => ?_) (fun hge => ?_)
  · have hlt' : i < ns := by omega
    have hA : (((List.range i).map (sectOf all)).flatMap bvs).length = i * 64 := by
      rw [flat_len (s := 64)]
      · simp
      · intro s hs; obtain ⟨j, _, rfl⟩ := List.mem_map.1 hs; rw [bvs_len, sectOf_len]
    have hnext : ((List.range (i + 1)).map (sectOf all)).flatMap bvs = ((List.range i).map (sectOf all)).flatMap bvs ++ bvs (sectOf all i) := by
      rw [List.range_succ, List.map_append, List.flatMap_append]; simp
    have hz : List.replicate ((ns - i) * 64) (Value.int .u8 0) = Value.int .u8 0 :: (List.replicate 63 (Value.int .u8 0) ++ List.replicate ((ns - (i + 1)) * 64) (Value.int .u8 0)) := by
      rw [show (ns - i) * 64 = 1 + (63 + (ns - (i + 1)) * 64) by omega, ← List.replicate_append_replicate, ← List.replicate_append_replicate]; rfl
    have ih' := fun a c => ih (i + 1, a, c)
    dsimp only at ih'
    rw [hnext] at ih'
    rw [hz]
    generalize ((List.range i).map (sectOf all)).flatMap bvs = A at *
    generalize List.replicate ((ns - (i + 1)) * 64) (Value.int .u8 0) = Z at *
    clear ih hnext hz
    refine go ?_
    refine Ops.ixS rfl rfl ⟨by omega, by omega⟩ ?_
    simp only [Int.toNat_natCast, Nat.zero_add]
    refine Ops.ixA rfl rfl ⟨by omega, by omega⟩ ?_
    have hset : ∀ x y : Value, (A ++ x :: (List.replicate 63 (Value.int .u8 0) ++ Z)).set (i * 64 + Int.toNat 0 * 1) y = A ++ y :: (List.replicate 63 (Value.int .u8 0) ++ Z) := by
      intro x y; rw [show i * 64 + Int.toNat 0 * 1 = A.length by rw [hA]; rfl, List.set_append_right _ _ (Nat.le_refl _), Nat.sub_self]; rfl
    have hlen : i * 64 + Int.toNat 0 * 1 < (A ++ Value.int .u8 3 :: (List.replicate 63 (Value.int .u8 0) ++ Z)).length := by
      rw [List.length_append, hA]; simp only [List.length_cons]; show i * 64 + 0 < _; omega
    refine Ops.st0 rfl rfl rfl rfl u0 (by rw [List.length_append, hA]; simp only [List.length_cons]; show i * 64 + 0 < _; omega) ?_
    rw [hset]
    have hne : i * 63 < all.length := by omega
    obtain ⟨ob, oo, rfl⟩ : ∃ ob oo, a2 = some ⟨ob, oo, none⟩ := by
      obtain ⟨_, _, he, h⟩ := hrd
      cases he
      rcases h with h | ⟨b', o', L, T, fz, he, _⟩
      · exact absurd (congrArg List.length h) (by simp; omega)
      · exact ⟨b', o', he⟩
    refine go ?_
    refine Run.condD rfl (fun hi0 => ?_) (fun hi0 => ?_)
    · have hi0' : i = 0 := by omega
      have hmk : Value.int .u8 2 = bv (if i = 0 then 2 else 3) := by rw [if_pos hi0']; rfl
      refine go ?_
      refine Ops.ixS rfl rfl ⟨by omega, by omega⟩ ?_
      simp only [Int.toNat_natCast, Nat.zero_add]
      refine Ops.ixA rfl rfl ⟨by omega, by omega⟩ ?_
      refine Ops.st0 rfl rfl rfl rfl u0 (by rw [List.length_append, hA]; simp only [List.length_cons]; show i * 64 + 0 < _; omega) ?_
      rw [hset]
      refine go ?_
      refine Ops.ixS rfl rfl ⟨by omega, by omega⟩ ?_
      simp only [Int.toNat_natCast, Nat.zero_add]
      refine Ops.slA (l1 := 1) (h1 := 64) rfl rfl rfl (by omega) (by omega) fun a3 ha3 => ?_
      have ha3' : a3 = some ⟨b6, i * 64 + 1, none⟩ := by
        rcases ha3 with h | h
        · exact h
        · omega
      subst ha3'
      refine go ?_
      refine Ops.cpy (s := 1) (vs := bvs ((all.drop (i * 63)).take 63)) rfl rfl rfl (fun w h q f => ?_) (bvs_one _) u0 ?_ ?_
      · have := hrd.showsN (m := Nat.min (all.drop (i * 63)).length 63) (Nat.min_le_left _ _) w h q f
        rwa [take_min] at this
      · have hk : (bvs ((all.drop (i * 63)).take 63)).length ≤ 63 := by rw [bvs_len]; exact List.length_take_le _ _
        rw [List.length_append, hA, List.length_cons, List.length_append, List.length_replicate]; omega
      rw [sect_step hA hmk]
      refine Ops.slS (l1 := Nat.min (all.drop (i * 63)).length 63) (h1 := (all.drop (i * 63)).length) rfl rfl rfl (Nat.min_le_left _ _) hcp fun a4 ha4 => ?_
      have hrd4 := hrd.drop (c' := c2 - Nat.min (all.drop (i * 63)).length 63) (Nat.min_le_left _ _) ha4
      rw [drop_min, List.drop_drop, show i * 63 + 63 = (i + 1) * 63 by omega] at hrd4
      have hlen4 : (all.drop (i * 63)).length - Nat.min (all.drop (i * 63)).length 63 = (all.drop ((i + 1) * 63)).length := by
        simp only [List.length_drop, Nat.min_def]; split <;> omega
      rw [hlen4] at hrd4 ⊢
      refine go ?_
      exact Run.lp (Run.again (ih' a4 _ (by omega) ⟨by omega, hrd4, by omega⟩) (.cons rfl (.cons rfl (.cons rfl (.cons rfl .nil)))) (fun _ h => h))
    · have hi0' : ¬ i = 0 := by omega
      have hmk : Value.int .u8 3 = bv (if i = 0 then 2 else 3) := by rw [if_neg hi0']; rfl
      refine go ?_
      refine Ops.ixS rfl rfl ⟨by omega, by omega⟩ ?_
      simp only [Int.toNat_natCast, Nat.zero_add]
      refine Ops.slA (l1 := 1) (h1 := 64) rfl rfl rfl (by omega) (by omega) fun a3 ha3 => ?_
      have ha3' : a3 = some ⟨b6, i * 64 + 1, none⟩ := by
        rcases ha3 with h | h
        · exact h
        · omega
      subst ha3'
      refine go ?_
      refine Ops.cpy (s := 1) (vs := bvs ((all.drop (i * 63)).take 63)) rfl rfl rfl (fun w h q f => ?_) (bvs_one _) u0 ?_ ?_
      · have := hrd.showsN (m := Nat.min (all.drop (i * 63)).length 63) (Nat.min_le_left _ _) w h q f
        rwa [take_min] at this
      · have hk : (bvs ((all.drop (i * 63)).take 63)).length ≤ 63 := by rw [bvs_len]; exact List.length_take_le _ _
        rw [List.length_append, hA, List.length_cons, List.length_append, List.length_replicate]; omega
      rw [sect_step hA hmk]
      refine Ops.slS (l1 := Nat.min (all.drop (i * 63)).length 63) (h1 := (all.drop (i * 63)).length) rfl rfl rfl (Nat.min_le_left _ _) hcp fun a4 ha4 => ?_
      have hrd4 := hrd.drop (c' := c2 - Nat.min (all.drop (i * 63)).length 63) (Nat.min_le_left _ _) ha4
      rw [drop_min, List.drop_drop, show i * 63 + 63 = (i + 1) * 63 by omega] at hrd4
      have hlen4 : (all.drop (i * 63)).length - Nat.min (all.drop (i * 63)).length 63 = (all.drop ((i + 1) * 63)).length := by
        simp only [List.length_drop, Nat.min_def]; split <;> omega
      rw [hlen4] at hrd4 ⊢
      refine go ?_
      exact Run.lp (Run.again (ih' a4 _ (by omega) ⟨by omega, hrd4, by omega⟩) (.cons rfl (.cons rfl (.cons rfl (.cons rfl .nil)))) (fun _ h => h))
  · have : i = ns := by omega
    subst this
    refine Run.exit rfl ?_
    refine go ?_
    refine Run.ret1 Tryz.func154 rfl rfl (fun h q => q) ⟨b6, rfl, ?_⟩
    rw [hcutE]; simp
end Eng
end Go.Proofs.YtnfomoeicgdkkaaGreatDoor

/- The log: a record is kept; the disk is looked through. -/
set_option linter.unusedSimpArgs false
set_option linter.unusedVariables false
namespace Go.Proofs.YtnfomoeicgdkkaaGreatDoor

theorem hf_eq {D D' : DiskS} (h : D'.kept.length = D.kept.length) : D'.hf = D.hf := by unfold DiskS.hf; rw [h]

namespace Eng
attribute [local irreducible] Ops Segs Run Spec

theorem RdS.ext {F F' : Hp} (e : Ext F F') {v : Value} {ss : List Bytes} (h : RdS F v ss) : RdS F' v ss := by
  obtain ⟨a, c, hv, hc, h64, h⟩ := h
  refine ⟨a, c, hv, hc, h64, h.imp id ?_⟩
  rintro ⟨b, o, L, T, fz, ha, hF, r⟩
  exact ⟨b, o, L, T, fz, ha, e _ _ hF, r⟩

theorem RdS.tail {F : Hp} {b o n c : Nat} {a' : Option Addr} {ss : List Bytes} {c' : Nat} (h : RdS F (.slice (some ⟨b, o, none⟩) n c) ss) (h0 : 1 ≤ ss.length) (hc : c' = c - 1) (ha : a' = some ⟨b, o + 1 * 64, none⟩ ∨ n - 1 = 0) : RdS F (.slice a' (n - 1) c') ss.tail := by
  obtain ⟨a, c0, he, hcap, h64, h⟩ := h
  cases he
  refine ⟨a', c', by simp, by simp; omega, fun s hs => h64 s (List.mem_of_mem_tail hs), ?_⟩
  by_cases h1 : ss.length - 1 = 0
  · exact .inl (List.length_eq_zero_iff.1 (by simpa using h1))
  rcases h with h | ⟨b', o', L, T, fz, he, hF, hl, ht⟩
  · subst h; simp at h0
  · cases he
    rcases ha with ha | ha
    · refine .inr ⟨b, o + 1 * 64, L, T, fz, ha, hF, by simp; omega, ?_⟩
      cases ss with
      | nil => simp at h0
      | cons s ss =>
        have := congrArg (List.drop 64) ht
        rw [List.drop_take, List.drop_drop, List.flatMap_cons, List.drop_append] at this
        have hs : (bvs s).length = 64 := by rw [bvs_len, h64 s (.head _)]
        rw [List.drop_eq_nil_of_le (show (bvs s).length ≤ 64 by omega), hs, Nat.sub_self, List.drop_zero, List.nil_append] at this
        simp only [List.tail_cons, Nat.one_mul]
        rw [← this]; simp only [List.length_cons]; congr 1; omega
    · exact absurd ha h1

theorem RdS.front {F : Hp} {a : Option Addr} {n c : Nat} {ss : List Bytes} {a' : Option Addr} (h : RdS F (.slice a n c) ss) (h0 : 1 ≤ ss.length) {n' c' : Nat} (hn : n' = 1) (hc : 1 ≤ c') (ha : a' = a) : RdS F (.slice a' n' c') (ss.take 1) := by
  obtain ⟨a0, c0, he, hcap, h64, h⟩ := h
  cases he
  subst hn; subst ha
  have hl1 : (ss.take 1).length = 1 := by simp; omega
  refine ⟨_, c', by rw [hl1], by rw [hl1]; exact hc, fun s hs => h64 s (List.mem_of_mem_take hs), ?_⟩
  rcases h with h | ⟨b', o', L, T, fz, he, hF, hl, ht⟩
  · subst h; simp at h0
  · refine .inr ⟨b', o', L, T, fz, he, hF, by rw [hl1]; omega, ?_⟩
    rw [hl1]
    cases ss with
    | nil => simp at h0
    | cons s ss =>
      have := congrArg (List.take 64) ht
      have hs : (bvs s).length = 64 := by rw [bvs_len, h64 s (.head _)]
      rw [List.take_take, List.flatMap_cons, List.take_append_of_le_length (by omega), List.take_of_length_le (l := bvs s) (by omega), Nat.min_eq_left (by simp only [List.length_cons]; omega)] at this
      simpa using this

theorem log_keep (l d : Nat) (L : LogS) (a : Option Addr) (n c : Nat) (D : DiskS) (hok : D.Ok) (h2 : 2 ≤ D.kept.length) (hh : L.half ≤ 1) (hp : L.pos ≤ 1000000) (b o cp : Nat) (ss : List Bytes) (h1 : 1 ≤ ss.length)
    (hc : D.cache.length + ss.length ≤ 1099511627776) (F : Hp) (hr : RdS F (.slice (some ⟨b, o, none⟩) ss.length cp) ss) (hF : F l = some (.cells (lcells d L a n c).toArray 233 (0, 0))) :
    Spec Tryz.prog 153 [.pointer (some ⟨l, 0, none⟩), .slice (some ⟨b, o, none⟩) ss.length cp].toArray F [DiskP d D] fun v H => v = .int .i64 (L.keep D ss).1 ∧ H = [DiskP d (L.keep D ss).2] := by
  have hcp : ss.length ≤ cp := by obtain ⟨_, _, he, h, _⟩ := hr; cases he; exact h
  have h64 : ∀ s ∈ ss, s.length = 64 := by obtain ⟨_, _, he, _, h, _⟩ := hr; exact h
  have hlt1 : (ss.take 1).length = 1 := by simp; omega
  have hsz := hok.size
  refine Spec.enter (n := 47) Tryz.func153 ok_log_Log_keep rfl (by simp) ?_
  unfold ec_log_Log_keep
  simp only [argFr, Nat.reduceAdd]
  refine go ?_
  refine Run.meet (ι := DiskS) (fun D' => D'.Ok ∧ D'.kept.length = D.kept.length ∧ D'.cache.length + 1 ≤ 1099511627776 ∧ L.keep D ss = andThen (D'.put (L.base D' L.pos) (ss.take 1)) DiskS.flush)
    (fun _ => [(0, .pointer (some ⟨l, 0, none⟩)), (1, .slice (some ⟨b, o, none⟩) ss.length cp)]) (fun D' => [DiskP d D']) ?_ ?_
  · rintro D' ⟨hok', hkl, hcl, hK⟩
    rw [hK]
    refine go ?_
    have hsz' := hok'.size
    refine Ops.slS (l1 := 0) (h1 := 1) rfl rfl rfl (by omega) (by omega) fun a1 ha1 => ?_
    have ha2 : a1 = some ⟨b, o, none⟩ := by
      rcases ha1 with h | h
      · simpa using h
      · omega
    have hr1 : RdS F (.slice a1 1 (cp - 0)) (ss.take 1) := hr.front h1 rfl (by omega) ha2
    simp only [Nat.sub_zero] at hr1 ⊢
    refine Ops.ldF rfl hF rfl ?_
    refine Ops.nil (Segs.oneS rfl ?_)
    refine go1 ?_
    refine Ops.call1 rfl (.cons s0 .nil) (fun F' e _ => log_put l d L a n c D' hok' (by omega) hh L.pos (by omega) _ (ss.take 1) (by omega) F' (hr1.ext e) (e _ _ hF)) ?_
    rintro v G ⟨rfl, rfl⟩
    simp only [List.cons_append, List.nil_append]
    have hp2 := DiskS.put_spec (ss.take 1) D' (L.base D' L.pos) hok' (fun s hs => h64 s (List.mem_of_mem_take hs)) (by omega)
    generalize D'.put (L.base D' L.pos) (ss.take 1) = r at *
    unfold andThen
    refine go ?_
    by_cases he : r.1 = 0
    · rw [if_pos he]
      refine Run.condF (by simp [he, get, look]) ?_
      refine go ?_
      refine Ops.ldF rfl hF rfl ?_
      refine Ops.call1 rfl (.cons s0 .nil) (fun F' e _ => disk_Flush d r.2 F') ?_
      rintro v G ⟨rfl, rfl⟩
      simp only [List.cons_append, List.nil_append]
      refine go ?_
      exact Run.ret1 Tryz.func153 rfl rfl (fun h q => q) ⟨rfl, rfl⟩
    · rw [if_neg he]
      refine Run.condT (by simp [he, get, look]) ?_
      refine go ?_
      exact Run.ret1 Tryz.func153 rfl rfl (fun h q => q) ⟨rfl, rfl⟩
  · intro tail
    refine Run.condD rfl (fun hlt => ?_) (fun hge => ?_)
    · have hlt' : 1 < ss.length := by omega
      have hK : L.keep D ss = andThen (andThen (D.put (L.base D (L.pos + 1)) ss.tail) DiskS.flush) fun D => andThen (D.put (L.base D L.pos) (ss.take 1)) DiskS.flush := by unfold LogS.keep; rw [if_pos hlt']
      have hsz' := hok.size
      refine go ?_
      refine Ops.slS (l1 := 1) (h1 := ss.length) rfl rfl rfl (by omega) (by omega) fun a1 ha1 => ?_
      have hr1 : RdS F (.slice a1 (ss.length - 1) (cp - 1)) ss.tail := hr.tail h1 rfl ha1
      refine Ops.ldF rfl hF rfl ?_
      refine Ops.nil (Segs.oneS rfl ?_)
      refine go1 ?_
      have hcast : (L.pos : Int) + 1 = ((L.pos + 1 : Nat) : Int) := by omega
      rw [hcast]
      refine Ops.call1 rfl (.cons s0 .nil) (fun F' e _ => log_put l d L a n c D hok (by omega) hh (L.pos + 1) (by omega) _ ss.tail (by simp; omega) F' (hr1.ext e) (e _ _ hF)) ?_
      rintro v G ⟨rfl, rfl⟩
      simp only [List.cons_append, List.nil_append]
      have hp2 := DiskS.put_spec ss.tail D (L.base D (L.pos + 1)) hok (fun s hs => h64 s (List.mem_of_mem_tail hs)) (by simp; omega)
      rw [List.length_tail] at hp2
      generalize D.put (L.base D (L.pos + 1)) ss.tail = r at *
      unfold andThen at hK
      refine go ?_
      by_cases he : r.1 = 0
      · rw [if_pos he] at hK
        refine Run.condF (by simp [he, get, look]) ?_
        refine go ?_
        refine Ops.ldF rfl hF rfl ?_
        refine Ops.call1 rfl (.cons s0 .nil) (fun F' e _ => disk_Flush d r.2 F') ?_
        rintro v G ⟨rfl, rfl⟩
        simp only [List.cons_append, List.nil_append]
        have hp3 := DiskS.flush_cache r.2
        have hp4 := DiskS.flush_kept_len r.2
        have hp5 := DiskS.Ok.flush hp2.1
        generalize r.2.flush = r2 at *
        refine go ?_
        by_cases he2 : r2.1 = 0
        · rw [if_pos he2] at hK
          refine Run.condF (by simp [he2, get, look]) ?_
          refine Run.skip ?_
          refine Run.again (tail r2.2 ⟨hp5, by omega, by omega, ?_⟩) (.cons rfl (.cons rfl .nil)) (fun h q => q)
          rw [hK]; rfl
        · rw [if_neg he2] at hK
          refine Run.condT (by simp [he2, get, look]) ?_
          refine go ?_
          exact Run.ret1 Tryz.func153 rfl rfl (fun h q => q) ⟨by rw [hK], by rw [hK]⟩
      · rw [if_neg he] at hK
        refine Run.condT (by simp [he, get, look]) ?_
        refine go ?_
        exact Run.ret1 Tryz.func153 rfl rfl (fun h q => q) ⟨by rw [hK, if_neg he], by rw [hK, if_neg he]⟩
    · have hK : L.keep D ss = andThen (D.put (L.base D L.pos) (ss.take 1)) DiskS.flush := by
        unfold LogS.keep; rw [if_neg (by omega)]; unfold andThen; rw [if_pos rfl]
      refine Run.skip ?_
      exact Run.again (tail D ⟨hok, rfl, by omega, hK⟩) (.cons rfl (.cons rfl .nil)) (fun h q => q)
end Eng
end Go.Proofs.YtnfomoeicgdkkaaGreatDoor

/- The log: a record behind all others; its list. -/
set_option linter.unusedSimpArgs false
set_option linter.unusedVariables false
namespace Go.Proofs.YtnfomoeicgdkkaaGreatDoor

structure LogS.Ok (L : LogS) (D : DiskS) : Prop where
  half : L.half ≤ 1
  pos : L.pos ≤ D.hf
  epoch : L.epoch ≤ 4294967290
  top : L.top ≤ 4294967290
  list : L.list.length ≤ L.pos
  disk : D.Ok
  size : 6 ≤ D.kept.length

def LogS.append (L : LogS) (D : DiskS) (b : Bytes) : Int × LogS × DiskS :=
  if L.dead = true then (3, L, D) else if 4096 < b.length then (6, L, D) else if D.hf < L.pos + sectorsOf b.length then (7, L, D) else
    if (L.keep D (cutOf L.list.length L.epoch b)).1 = 0 then (0, { L with pos := L.pos + sectorsOf b.length, list := L.list ++ [b] }, (L.keep D (cutOf L.list.length L.epoch b)).2)
    else ((L.keep D (cutOf L.list.length L.epoch b)).1, { L with dead := true }, (L.keep D (cutOf L.list.length L.epoch b)).2)

theorem hf_le {D : DiskS} (h : D.Ok) : D.hf ≤ 2047 := by unfold DiskS.hf; have := h.size; omega

namespace Eng
theorem rows_snoc {vs : List Value} {bss : List Bytes} {b : Bytes} {a : Option Addr} {n c : Nat} {T : TypeId} {H : List HA} : ∀ h, seps (RowsP vs bss :: OwnS a n c 1 T (bvs b) :: H) h → seps (RowsP (vs ++ [.slice a n c]) (bss ++ [b]) :: H) h := by
  intro h ⟨x, y, sp, ⟨G1, h1, q1⟩, ⟨x2, y2, sp2, ⟨G2, h2, q2⟩, qr⟩⟩
  have q : seps (G1 ++ (G2 ++ H)) h := seps_append.2 ⟨x, y, sp, q1, seps_append.2 ⟨x2, y2, sp2, q2, qr⟩⟩
  rw [← List.append_assoc] at q
  obtain ⟨x3, y3, sp3, q3, qr3⟩ := seps_append.1 q
  exact ⟨x3, y3, sp3, ⟨G1 ++ G2, h1.snoc h2.row.2, q3⟩, qr3⟩

attribute [local irreducible] Ops Segs Run Spec

theorem rdS_cells {F : Hp} {b : Nat} {ss : List Bytes} {T : TypeId} {fz : Nat × Nat} (hF : F b = some (.cells (ss.flatMap bvs).toArray T fz)) (h64 : ∀ s ∈ ss, s.length = 64) {n c : Nat} (hn : n = ss.length) (hc : n ≤ c) : RdS F (.slice (some ⟨b, 0, none⟩) n c) ss := by
  subst hn
  have hl : (ss.flatMap bvs).length = ss.length * 64 := flat_len ss (fun s hs => by rw [bvs_len, h64 s hs])
  exact ⟨_, c, rfl, hc, h64, .inr ⟨b, 0, ss.flatMap bvs, T, fz, rfl, hF, by omega, by rw [List.drop_zero, List.take_of_length_le (by omega)]⟩⟩

theorem app_fit {m k : Nat} (h : m ≤ 1099511627) (hk : k ≤ 100) : (2 * m + 1024) * k ≤ 281474976710656 :=
  Nat.le_trans (Nat.mul_le_mul_left _ hk) (by omega)

set_option maxHeartbeats 400000 in
theorem log_Append (l d : Nat) (L : LogS) (D : DiskS) (ok : L.Ok D) (hc : D.cache.length + 5000 ≤ 1099511627776) (v : Value) (b : Bytes) (hb : b.length ≤ 1048576) (F : Hp) (hr : RdB F v b) :
    Spec Tryz.prog 90 [.pointer (some ⟨l, 0, none⟩), v].toArray F [LogP l d L, DiskP d D] fun v H => v = .int .i64 (L.append D b).1 ∧ H = [LogP l d (L.append D b).2.1, DiskP d (L.append D b).2.2] := by
  have hr' := hr
  obtain ⟨oa, oc, rfl, _⟩ := hr'
  have hsz := ok.disk.size
  have hhf := hf_le ok.disk
  have hpos := ok.pos
  have hlist := ok.list
  have h6 := ok.size
  have hsn : sectorsOf b.length * 63 ≤ b.length + 78 ∧ b.length + 16 ≤ sectorsOf b.length * 63 := by unfold sectorsOf; omega
  have hbb : (2 * b.length + 1024) * 1 ≤ 281474976710656 := app_fit (by omega) (by decide)
  have hbl : (2 * (L.list.length + 1) + 1024) * 24 ≤ 281474976710656 := app_fit (by omega) (by decide)
  refine Spec.enter (n := 68) Tryz.func90 ok_log_Log_Append rfl (by simp) ?_
  unfold ec_log_Log_Append
  simp only [argFr, Nat.reduceAdd]
  refine Run.open_ s0 fun G ⟨a, c, vs, hh, hvl, hG⟩ => ?_
  subst hG
  simp only [List.cons_append, List.nil_append]
  have hfold : ∀ (L' : LogS) (a' : Option Addr) (c' : Nat) (vs' : List Value) (D' : DiskS), L'.half ≤ 1 → vs'.length = L'.list.length → ∀ h, seps [DiskP d D', .pt l (.cells (lcells d L' a' vs'.length c').toArray 233 (0, 0)), OwnS a' vs'.length c' 1 22 vs', RowsP vs' L'.list] h → seps [LogP l d L', DiskP d D'] h :=
    fun L' a' c' vs' D' hh hv h q => fold_grp (.cons s1 (.cons s1 (.cons s1 .nil))) ⟨a', c', vs', hh, hv, rfl⟩ h q
  refine go ?_
  refine Ops.call1 rfl .nil (fun F' _ _ => log_sectors b.length (by omega) F') ?_
  rintro v G ⟨rfl, rfl⟩
  simp only [List.cons_append, List.nil_append]
  unfold LogS.append
  refine go ?_
  by_cases hd : L.dead = true
  · rw [if_pos hd]
    refine Run.condT (by rw [← hd]; rfl) ?_
    refine go ?_
    exact Run.ret1 Tryz.func90 rfl rfl (fun h q => hfold L a c vs D hh hvl h (take_sub (.cons s3 (.cons s0 (.cons s0 (.cons s0 .nil)))) h q)) ⟨rfl, rfl⟩
  rw [if_neg hd]
  refine Run.condF (by have : L.dead = false := by simpa using hd
                       rw [← this]; rfl) ?_
  refine go ?_
  refine Run.condD rfl (fun h4 => ?_) (fun h4 => ?_)
  · rw [if_pos (by omega)]
    refine go ?_
    exact Run.ret1 Tryz.func90 rfl rfl (fun h q => hfold L a c vs D hh hvl h (take_sub (.cons s3 (.cons s0 (.cons s0 (.cons s0 .nil)))) h q)) ⟨rfl, rfl⟩
  rw [if_neg (by omega)]
  refine go ?_
  refine Segs.lend [_] (.cons s0 .nil) fun F1 x1 k1 => ?_
  have hFl := k1 _ _ m0
  refine go ?_
  refine Ops.ldF rfl hFl rfl ?_
  refine go1 ?_
  refine Ops.ldF rfl hFl rfl ?_
  refine Ops.call1 rfl (.cons s2 .nil) (fun F' _ _ => log_half d D (by omega) F') ?_
  rintro v G ⟨rfl, rfl⟩
  simp only [List.cons_append, List.nil_append]
  refine Ops.nil (Segs.oneS rfl ?_)
  refine go1 ?_
  refine Ops.nil (Segs.nil ?_)
  refine Run.condD rfl (fun h5 => ?_) (fun h5 => ?_)
  · rw [if_pos (by omega)]
    refine go ?_
    exact Run.ret1 Tryz.func90 rfl rfl (fun h q => hfold L a c vs D hh hvl h (take_sub (.cons s1 (.cons s0 (.cons s0 (.cons s0 .nil)))) h q)) ⟨rfl, rfl⟩
  rw [if_neg (by omega)]
  clear hFl k1 x1 F1
  refine go ?_
  refine Ops.call1 rfl .nil (fun F' e kn => log_cut l d L a vs.length c (by have := ok.epoch; omega) vs.length (by omega) _ b hb F' (hr.ext e) (kn _ _ m0)) ?_
  rintro v G ⟨o, rfl, rfl⟩
  simp only [List.cons_append, List.nil_append]
  rw [hvl]
  have hcl := cutOf_len L.list.length L.epoch b
  have hca := cutOf_all L.list.length L.epoch b
  rw [← hcl]
  generalize cutOf L.list.length L.epoch b = ss at *
  refine Ops.call1 rfl (.cons s2 .nil) (fun F' e kn => log_keep l d L a vs.length c D ok.disk (by omega) hh (by omega) o 0 ss.length ss (by omega) (by omega) F' (rdS_cells (kn _ _ m0) hca rfl (Nat.le_refl _)) (by rw [← hvl] at kn; exact kn _ _ m1)) ?_
  rintro v G ⟨rfl, rfl⟩
  simp only [List.cons_append, List.nil_append]
  generalize L.keep D ss = r at *
  refine go ?_
  by_cases he : r.1 = 0
  · rw [if_pos he]
    refine Run.condF (by simp [he, get, look]) ?_
    refine Run.conseq (H' := [.pt l (.cells (lcells d L a L.list.length c).toArray 233 (0, 0)), OwnS a L.list.length c 1 22 vs, RowsP vs L.list, DiskP d r.2]) (fun h q => take_sub (.cons s2 (.cons s2 (.cons s2 (.cons s0 .nil)))) h q) ?_
    refine go ?_
    refine Segs.lend [_] (.cons s0 .nil) fun F1 x1 k1 => ?_
    refine go ?_
    refine Ops.ldF rfl (k1 _ _ m0) rfl ?_
    refine Ops.call1 rfl .nil (fun F' _ _ => log_sectors b.length (by omega) F') ?_
    rintro v G ⟨rfl, rfl⟩
    simp only [List.cons_append, List.nil_append]
    refine Ops.nil (Segs.oneS rfl ?_)
    rw [← hcl]
    refine go ?_
    clear k1 x1 F1
    refine Segs.lend [_] (.cons s0 .nil) fun F1 x1 k1 => ?_
    refine go ?_
    refine Ops.ldF rfl (k1 _ _ m0) rfl ?_
    refine Ops.appN (ys := bvs b) rfl rfl rfl (fun w h q f => (hr.ext x1).shows w h q f) (bvs_one b) (by rw [bvs_len]; exact (Nat.mul_one _).symm) (by decide) hbb fun a1 c1 => ?_
    refine Ops.lit [.slice a1 b.length c1] rfl rfl fun b1 => ?_
    refine Ops.nil (Segs.oneS rfl ?_)
    simp only [List.cons_append, List.nil_append]
    refine Ops.app (m := 1) (ys := [.slice a1 b.length c1]) rfl rfl rfl s3 (shows_pt m1 (Nat.le_refl 1) rfl) (fun v hv => by rw [List.mem_singleton] at hv; subst hv; rfl) rfl (by decide) hbl fun a2 c2 => ?_
    refine go ?_
    refine Run.ret1 Tryz.func90 rfl rfl (fun h q => hfold { L with pos := L.pos + ss.length, list := L.list ++ [b] } a2 c2 (vs ++ [.slice a1 b.length c1]) r.2 hh (by simp [hvl]) h ?_) ⟨rfl, rfl⟩
    have hvl2 : (vs ++ [Value.slice a1 b.length c1]).length = L.list.length + 1 := by rw [List.length_append, hvl]; rfl
    rw [hvl2]
    exact take_sub (.cons s1 (.cons s1 (.cons s1 (.cons s0 .nil)))) h (rows_snoc h (take_sub (.cons s4 (.cons s3 (.cons s3 (.cons s1 (.cons s0 .nil))))) h q))
  · rw [if_neg he]
    refine Run.condT (by simp [he, get, look]) ?_
    refine go ?_
    refine Ops.call1 rfl (.cons s2 .nil) (fun F' e kn => log_die l d L a L.list.length c r.1 F') ?_
    rintro v G ⟨rfl, rfl⟩
    simp only [List.cons_append, List.nil_append]
    refine go ?_
    refine Run.ret1 Tryz.func90 rfl rfl (fun h q => hfold { L with dead := true } a c vs r.2 hh hvl h ?_) ⟨rfl, rfl⟩
    have : (L.dead || decide (r.1 ≠ 0)) = true := by simp [he]
    rw [this] at q
    rw [hvl]
    exact take_sub (.cons s1 (.cons s0 (.cons s1 (.cons s1 .nil)))) h q
end Eng
end Go.Proofs.YtnfomoeicgdkkaaGreatDoor

/- The log's list. -/
set_option linter.unusedSimpArgs false
set_option linter.unusedVariables false
namespace Go.Proofs.YtnfomoeicgdkkaaGreatDoor
namespace Eng

theorem Run.lendE {P : Program} {f : FuncId} {n : Nat} {F : Hp} {K : List EI} {l : Fr} {H : List HA} {R : Value → List HA → Prop} (S S' : List HA) {M : List HA} (t : Take H S M) (es : ∀ h, seps S h → seps S' h)
    (r : ∀ F', Ext F F' → Known S F' → Run P f n F' K l M (fun v H' => R v (H' ++ S'))) : Run P f n F K l H R := by
  intro K' w0 w h a i q fw fa kp
  obtain ⟨x, y, sp, qx, qy⟩ := seps_append.1 (t.sound q)
  have hb : ∀ n, x n = none ∨ F n = none := fun n => (fw.dis n).imp sp.none_left id
  have ext : Ext F (Eng.join F x) := fun n o e => by simp [Eng.join, e]
  have known : Known S (Eng.join F x) := fun n o m => by
    have := seps_mem_pt m qx
    rcases hb n with e | e
    · rw [e] at this; cases this
    · simp [Eng.join, e, this]
  refine (r (Eng.join F x) ext known K' w0 w y a i qy (fw.split sp.symm) fa kp).mono ?_
  rintro e w' ⟨v, H', h', he, r, q', k', kp'⟩
  have ⟨k2, s2⟩ := k'.unsplit hb
  exact ⟨v, _, _, he, r, seps_append.2 ⟨h', x, s2, q', es _ qx⟩, k2, kp'⟩

/-- a log in memory, with all of its blocks -/
def LogI2 (l d : Nat) (L : LogS) (G : List HA) : Prop := ∃ a c vs G1 G2, L.half ≤ 1 ∧ vs.length = L.list.length ∧ OwnI a vs.length c 1 22 vs G1 ∧ RowsI vs L.list G2 ∧
  G = .pt l (.cells (lcells d L a vs.length c).toArray 233 (0, 0)) :: (G1 ++ G2)

theorem log_deep {l d : Nat} {L : LogS} {H : List HA} : ∀ h, seps (LogP l d L :: H) h → seps (grp (LogI2 l d L) :: H) h := by
  rintro h ⟨x, y, sp, ⟨G, ⟨a, c, vs, hh, hv, rfl⟩, q⟩, qr⟩
  obtain ⟨x1, y1, sp1, hp, ⟨x2, y2, sp2, ⟨G1, h1, q1⟩, ⟨x3, y3, sp3, ⟨G2, h2, q2⟩, _⟩⟩⟩ := q
  exact ⟨x, y, sp, ⟨_, ⟨a, c, vs, G1, G2, hh, hv, h1, h2, rfl⟩, ⟨x1, y1, sp1, hp, seps_append.2 ⟨x2, y2, sp2, q1, seps_up q2 sp3.symm⟩⟩⟩, qr⟩

theorem log_shut {l d : Nat} {L : LogS} {G : List HA} (hG : LogI2 l d L G) : ∀ h, seps G h → seps [LogP l d L] h := by
  obtain ⟨a, c, vs, G1, G2, hh, hv, h1, h2, rfl⟩ := hG
  intro h ⟨x1, y1, sp1, hp, q⟩
  obtain ⟨x2, y2, sp2, q1, q2⟩ := seps_append.1 q
  refine ⟨h, noHp, (Split.empty h).symm, ⟨_, ⟨a, c, vs, hh, hv, rfl⟩, ⟨x1, y1, sp1, hp, ⟨x2, y2, sp2, ⟨G1, h1, q1⟩, ⟨y2, noHp, (Split.empty y2).symm, ⟨G2, h2, q2⟩, trivial⟩⟩⟩⟩, trivial⟩

theorem OwnI.rdBB {a : Option Addr} {n c : Nat} {T : TypeId} {vs : List Value} {G : List HA} (h : OwnI a n c 1 T vs G) {F : Hp} (k : Known G F) {bss : List Bytes} (r : RdsB F vs bss) : RdBB F (.slice a n c) bss := by
  obtain ⟨hl, h⟩ := h
  have hn : n = bss.length := by rw [r.len] at hl; omega
  rcases h with ⟨rfl, h, _, _⟩ | ⟨b, sp, rfl, hc, hcap, rfl⟩
  · exact ⟨_, c, by rw [hn], .inl (List.length_eq_zero_iff.1 (by omega))⟩
  · exact rdBB_mk (k _ _ m0) r hn

/-- a list of rows in memory -/
def LstI (v : Value) (bss : List Bytes) (G : List HA) : Prop := ∃ a c vs, v = .slice a bss.length c ∧ vs.length = bss.length ∧ G = [OwnS a bss.length c 1 22 vs, RowsP vs bss]
def LstP (v : Value) (bss : List Bytes) : HA := grp (LstI v bss)

attribute [local irreducible] Ops Segs Run Spec

theorem log_List (l d : Nat) (L : LogS) (hn : L.list.length ≤ 1099511627) (hb : ∀ b ∈ L.list, b.length ≤ 1099511627) (F : Hp) :
    Spec Tryz.prog 85 [.pointer (some ⟨l, 0, none⟩)].toArray F [LogP l d L] fun v H => ∃ a c, v = .slice a L.list.length c ∧ H = [LstP v L.list, LogP l d L] := by
  refine Spec.enter (n := 22) Tryz.func85 ok_log_Log_List rfl (by simp) ?_
  unfold ec_log_Log_List
  simp only [argFr, Nat.reduceAdd]
  refine Run.conseq log_deep (Run.open_ s0 fun G hG => Run.lendE G [LogP l d L] (take_app G []) (log_shut hG) fun F1 x1 k1 => ?_)
  obtain ⟨a, c, vs, G1, G2, hh, hvl, h1, h2, rfl⟩ := hG
  have hF := k1 _ _ m0
  have hbb := h1.rdBB k1.tail.left (h2.rds k1.tail.right)
  clear h1 h2 k1
  rw [hvl] at hbb hF
  obtain ⟨oa, oc, he, hbb⟩ := hbb
  cases he
  refine go ?_
  refine Ops.ldF rfl hF rfl ?_
  refine go ?_
  refine Run.loopI (ι := Nat × Option Addr × Nat × List Value) (fun x => L.list.length - x.1) (fun x => x.1 ≤ L.list.length ∧ x.2.2.2.length = x.1)
    (fun x => [(11, .int .i64 x.1), (10, .int .i64 L.list.length), (9, .slice a L.list.length c), (3, .slice x.2.1 x.1 x.2.2.1)])
    (fun x => [OwnS x.2.1 x.1 x.2.2.1 1 22 x.2.2.2, RowsP x.2.2.2 (L.list.take x.1)])
    (0, none, 0, []) ⟨Nat.zero_le _, rfl⟩ (.cons rfl (.cons rfl (.cons rfl (.cons rfl .nil)))) (fun h q => own_new h (fold_grp (I := RowsI [] []) .nil .nil h q)) ?_
  rintro ⟨i, a2, c2, ws⟩ ⟨hi, hwl⟩ ih
  dsimp only at hi hwl ih ⊢
  unfold ec_log_Log_List_L0
  refine go ?_
  refine Run.condD rfl (fun hlt => ?_) (fun hge => ?_)
  · have hlt' : i < L.list.length := by omega
    have hel : L.list[i]? = some L.list[i] := List.getElem?_eq_getElem hlt'
    have hbl := hb _ (List.getElem_mem hlt')
    rcases hbb with hbb | ⟨ob, o, La, T, fz, rfl, hFb, hl, hrd⟩
    · rw [hbb] at hlt'; simp at hlt'
    obtain ⟨x, hx, hrx⟩ := hrd i _ hel
    have hnext : L.list.take (i + 1) = L.list.take i ++ [L.list[i]] := by rw [List.take_succ_eq_append_getElem hlt']
    generalize L.list[i] = b at *
    have ih' := fun a c w => ih (i + 1, a, c, w)
    dsimp only at ih'
    rw [hnext] at ih'
    clear ih hnext
    refine go ?_
    refine Ops.ixS rfl rfl ⟨by omega, by omega⟩ ?_
    refine Ops.ldF rfl hFb (by rw [Int.toNat_natCast, Nat.mul_one]; exact hx) ?_
    refine go ?_
    refine Ops.appN (ys := bvs b) rfl rfl hrx.len (fun w h q f => hrx.shows w h q f) (bvs_one b) (by rw [bvs_len]; exact (Nat.mul_one _).symm) (by decide) (app_fit hbl (by decide)) fun a3 c3 => ?_
    refine Ops.lit [.slice a3 b.length c3] rfl rfl fun b1 => ?_
    refine Ops.app (m := 1) (ys := [.slice a3 b.length c3]) rfl rfl rfl s2 (shows_pt m0 (Nat.le_refl 1) rfl) (fun v hv => by rw [List.mem_singleton] at hv; subst hv; rfl) rfl (by decide) (app_fit (by omega) (by decide)) fun a4 c4 => ?_
    refine go ?_
    refine Run.lp (Run.again (ih' a4 c4 (ws ++ [.slice a3 b.length c3]) (by omega) ⟨by omega, by simp [hwl]⟩) (.cons rfl (.cons rfl (.cons rfl (.cons rfl .nil)))) ?_)
    exact fun h q => take_sub (.cons s1 (.cons s0 .nil)) h (rows_snoc h (take_sub (.cons s3 (.cons s2 (.cons s0 .nil))) h q))
  · have : i = L.list.length := by omega
    subst this
    rw [List.take_length]
    refine Run.exit rfl ?_
    refine go ?_
    exact Run.ret1 Tryz.func85 rfl rfl (fun h q => fold_grp (R := []) (.cons s0 (.cons s0 .nil)) ⟨a2, c2, ws, rfl, hwl, rfl⟩ h q) ⟨a2, c2, rfl, rfl⟩
end Eng
end Go.Proofs.YtnfomoeicgdkkaaGreatDoor

/- The log: the greatest epoch that was begun. -/
set_option linter.unusedSimpArgs false
set_option linter.unusedVariables false
namespace Go.Proofs.YtnfomoeicgdkkaaGreatDoor

def lookStep (s : Bytes) (t : Nat) : Nat := if s[0]? = some 2 then max t ((⟨(s.drop 9).take 4, false⟩ : Rd).num 2147483648).1.toNat else t
def lookN (D : DiskS) : Nat → Nat → Nat → Nat
  | 0, _, t => t
  | n + 1, a, t => lookN D n (a + 1) (lookStep (D.at_ a) t)

theorem lookStep_le (s : Bytes) {t m : Nat} (h : t ≤ m) (hm : 2147483648 ≤ m) : lookStep s t ≤ m := by
  unfold lookStep
  split
  · have := Rd.num_range (most := 2147483648) (by omega) ⟨(s.drop 9).take 4, false⟩
    omega
  · exact h
theorem lookN_le (D : DiskS) {m : Nat} (hm : 2147483648 ≤ m) : ∀ (n a t : Nat), t ≤ m → lookN D n a t ≤ m
  | 0, _, _, h => h
  | n + 1, a, t, h => lookN_le D hm n (a + 1) _ (lookStep_le _ h hm)

theorem first_byte {s : Bytes} (hs : s.length = 64) : ∃ u r, s = u :: r := by
  cases s with
  | nil => simp at hs
  | cons a r => exact ⟨a, r, rfl⟩
theorem byte_eq (u : UInt8) (k : Nat) (hk : k < 256) : decide ((u.toNat : Int) = (k : Int)) = decide (u = UInt8.ofNat k) := by
  refine decide_eq_decide.2 ⟨fun e => ?_, fun e => ?_⟩
  · apply UInt8.toNat_inj.1
    rw [UInt8.toNat_ofNat', Nat.mod_eq_of_lt (by omega)]; omega
  · rw [e, UInt8.toNat_ofNat', Nat.mod_eq_of_lt (by omega)]

namespace Eng
attribute [local irreducible] Ops Segs Run Spec

theorem log_look (l d : Nat) (L : LogS) (a : Option Addr) (n c : Nat) (D : DiskS) (hok : D.Ok) (hd : D.down = false) (F : Hp) :
    Spec Tryz.prog 135 [.pointer (some ⟨l, 0, none⟩)].toArray F [.pt l (.cells (lcells d L a n c).toArray 233 (0, 0)), DiskP d D] fun v H =>
      v = .int .i64 0 ∧ H = [.pt l (.cells (lcells d { L with top := lookN D (D.kept.length - 2) 2 L.epoch } a n c).toArray 233 (0, 0)), DiskP d D] := by
  have hsz := hok.size
  refine Spec.enter (n := 50) Tryz.func135 ok_log_Log_look rfl (by simp) ?_
  unfold ec_log_Log_look
  simp only [argFr, Nat.reduceAdd]
  refine go ?_
  refine Run.loopI (ι := Nat × Nat) (fun x => D.kept.length - x.1) (fun x => 2 ≤ x.1 ∧ lookN D (D.kept.length - 2) 2 L.epoch = lookN D (D.kept.length - x.1) x.1 x.2)
    (fun x => [(3, .int .i64 x.1), (0, .pointer (some ⟨l, 0, none⟩))]) (fun x => [.pt l (.cells (lcells d { L with top := x.2 } a n c).toArray 233 (0, 0)), DiskP d D])
    (2, L.epoch) ⟨Nat.le_refl _, rfl⟩ (.cons rfl (.cons rfl .nil)) (fun _ h => h) ?_
  rintro ⟨i, t⟩ ⟨hi, hlk⟩ ih
  dsimp only at hi hlk ih ⊢
  unfold ec_log_Log_look_L0
  refine go ?_
  refine Ops.call1 rfl (.cons s1 .nil) (fun F' _ _ => disk_Len d D F') ?_
  rintro v G ⟨rfl, rfl⟩
  simp only [List.cons_append, List.nil_append]
  refine go ?_
  refine Run.condD rfl (fun hlt => ?_) (fun hge => ?_)
  · have hlt' : i < D.kept.length := by omega
    have hlen := at_len hok hd hlt'
    rw [show D.kept.length - i = (D.kept.length - (i + 1)) + 1 by omega] at hlk
    simp only [lookN] at hlk
    have ih' := fun t => ih (i + 1, t)
    dsimp only at ih'
    clear ih
    refine go ?_
    refine Ops.call1 rfl (.cons s0 .nil) (fun F' _ _ => disk_Read d D _ F') ?_
    rintro v G ⟨rfl, rfl⟩
    rw [DiskS.read_at hd hlt']
    simp only [List.cons_append, List.nil_append]
    generalize D.at_ i = s at *
    refine go ?_
    refine Ops.alloc fun b4 => ?_
    refine Ops.stS hlen rfl rfl u0 ?_
    refine go ?_
    refine Run.condF rfl ?_
    obtain ⟨u, r, rfl⟩ := first_byte hlen
    refine go ?_
    refine Ops.ixA rfl rfl ⟨by omega, by omega⟩ ?_
    refine Ops.ld (v := bv u) rfl m0 rfl ?_
    unfold bv
    refine go ?_
    have hu := byte_eq u 2 (by omega)
    refine Run.condD rfl (fun h2 => ?_) (fun h2 => ?_)
    · have hu2 : u = 2 := by apply UInt8.toNat_inj.1; rw [show (2 : UInt8).toNat = 2 from rfl]; omega
      have hst : lookStep (u :: r) t = max t ((⟨((u :: r).drop 9).take 4, false⟩ : Rd).num 2147483648).1.toNat := by unfold lookStep; rw [if_pos (by rw [hu2]; rfl)]
      rw [hst] at hlk
      refine go ?_
      refine Ops.slA (l1 := 9) (h1 := 13) rfl rfl rfl (by omega) (by omega) fun a1 ha1 => ?_
      refine Ops.call1 rfl .nil (fun F' e kn => rec_Read _ _ F' (rdB_at (kn _ _ m0) 4 (o := 9) (by omega) (a := a1) (c := 55) (ha1.imp id (by omega))) (by simp; omega)) ?_
      rintro v G ⟨rb, rfl, rfl⟩
      simp only [List.cons_append, List.nil_append]
      have hnr := Rd.num_range (most := 2147483648) (by omega) ⟨((u :: r).drop 9).take 4, false⟩
      refine go ?_
      refine Segs.lend [_] (.cons s3 .nil) fun F1 x1 k1 => ?_
      refine go ?_
      refine Ops.ldF rfl (k1 _ _ m0) rfl ?_
      refine Ops.call1 rfl (.cons s0 .nil) (fun F' e _ => rec_Reader_Num rb _ 2147483648 (by simp; omega) F') ?_
      rintro v G ⟨rfl, rfl⟩
      simp only [List.cons_append, List.nil_append]
      generalize ((⟨((u :: r).drop 9).take 4, false⟩ : Rd).num 2147483648) = rr at *
      refine Ops.nil (Segs.oneS rfl ?_)
      refine Ops.pE (v' := .int .i64 ((max t rr.1.toNat : Nat) : Int)) rfl (by congr 1; split <;> omega) ?_
      refine go ?_
      exact Run.lp (Run.again (ih' _ (by omega) ⟨by omega, hlk⟩) (.cons rfl (.cons rfl .nil)) (fun h q => take_sub (.cons s0 (.cons s2 .nil)) h q))
    · have hst : lookStep (u :: r) t = t := by unfold lookStep; rw [if_neg (by simp only [List.getElem?_cons_zero, Option.some.injEq]; intro e; subst e; exact h2 rfl)]
      rw [hst] at hlk
      refine go ?_
      exact Run.lp (Run.again (ih' t (by omega) ⟨by omega, hlk⟩) (.cons rfl (.cons rfl .nil)) (fun h q => take_sub (.cons s2 (.cons s1 .nil)) h q))
  · have : D.kept.length - i = 0 := by omega
    rw [this] at hlk
    simp only [lookN] at hlk
    rw [hlk]
    refine Run.exit rfl ?_
    refine go ?_
    exact Run.ret1 Tryz.func135 rfl rfl (fun h q => take_sub (.cons s1 (.cons s0 .nil)) h q) ⟨rfl, rfl⟩
end Eng
end Go.Proofs.YtnfomoeicgdkkaaGreatDoor
