/- Numbers as bytes, and sums, plainly; what it is to read bytes in memory. -/
import Derived.Test.YtbhlolmglieehaaXD
import Derived.Test.YtbhlolmglieehaaXC
set_option linter.unusedSimpArgs false
set_option linter.unusedVariables false
namespace Go.Proofs.Ytbhlolmglieehaa

/-- a number's four bytes, the lowest first -/
def le4 (n : Nat) : Bytes := [UInt8.ofNat n, UInt8.ofNat (n / 256), UInt8.ofNat (n / 65536), UInt8.ofNat (n / 16777216)]

def val4 (a b c d : UInt8) : Nat := a.toNat + b.toNat * 256 + c.toNat * 65536 + d.toNat * 16777216

theorem val4_lt (a b c d : UInt8) : val4 a b c d < 4294967296 := by
  have := a.toNat_lt; have := b.toNat_lt; have := c.toNat_lt; have := d.toNat_lt
  unfold val4; omega

theorem val4_le4 (n : Nat) (h : n < 4294967296) : val4 (UInt8.ofNat n) (UInt8.ofNat (n / 256)) (UInt8.ofNat (n / 65536)) (UInt8.ofNat (n / 16777216)) = n := by
  unfold val4
  simp only [UInt8.toNat_ofNat']
  omega

theorem le4_len (n : Nat) : (le4 n).length = 4 := rfl

/-- a reader: what is left, and whether something was wrong -/
structure Rd where
  b : Bytes
  bad : Bool

def Rd.num (most : Int) : Rd → Int × Rd
  | ⟨a :: b :: c :: d :: r, bad⟩ => if most < (val4 a b c d : Int) then (0, ⟨[], true⟩) else ((val4 a b c d : Int), ⟨r, bad⟩)
  | _ => (0, ⟨[], true⟩)

def crcBit (c : Nat) : Nat := if c % 2 = 1 then (c / 2) ^^^ 3988292384 else c / 2
def crcBits : Nat → Nat → Nat
  | 0, c => c
  | n + 1, c => crcBits n (crcBit c)
def crcByte (c : Nat) (b : UInt8) : Nat := crcBits 8 (c ^^^ b.toNat)
def crcOf (bs : Bytes) : Nat := (bs.foldl crcByte 4294967295) ^^^ 4294967295

theorem crcBit_lt {c : Nat} (h : c < 4294967296) : crcBit c < 4294967296 := by
  unfold crcBit
  split
  · exact Nat.xor_lt_two_pow (n := 32) (by omega) (by decide)
  · omega
theorem crcBits_lt : ∀ (n : Nat) {c : Nat}, c < 4294967296 → crcBits n c < 4294967296
  | 0, _, h => h
  | n + 1, _, h => crcBits_lt n (crcBit_lt h)
theorem crcByte_lt {c : Nat} (h : c < 4294967296) (b : UInt8) : crcByte c b < 4294967296 :=
  crcBits_lt 8 (Nat.xor_lt_two_pow (n := 32) h (by have := b.toNat_lt; omega))
theorem crcFold_lt : ∀ (bs : Bytes) {c : Nat}, c < 4294967296 → bs.foldl crcByte c < 4294967296
  | [], _, h => h
  | b :: bs, _, h => crcFold_lt bs (crcByte_lt h b)
theorem crcOf_lt (bs : Bytes) : crcOf bs < 4294967296 := Nat.xor_lt_two_pow (n := 32) (crcFold_lt bs (by decide)) (by decide)

namespace Eng

/-- bytes that can be read in the frame -/
def RdB (F : Hp) (v : Value) (bs : Bytes) : Prop := ∃ a c, v = .slice a bs.length c ∧
  (bs = [] ∨ ∃ b o L T fz, a = some ⟨b, o, none⟩ ∧ F b = some (.cells (List.toArray L) T fz) ∧ o + bs.length ≤ L.length ∧ (L.drop o).take bs.length = bvs bs)

theorem RdB.ext {F F' : Hp} (e : Ext F F') {v : Value} {bs : Bytes} (h : RdB F v bs) : RdB F' v bs := by
  obtain ⟨a, c, hv, h⟩ := h
  refine ⟨a, c, hv, h.imp id ?_⟩
  rintro ⟨b, o, L, T, fz, ha, hF, r⟩
  exact ⟨b, o, L, T, fz, ha, e _ _ hF, r⟩

theorem RdB.shows {F : Hp} {v : Value} {bs : Bytes} (h : RdB F v bs) {H : List HA} : ∀ w h, seps H h → Fits F h w → shows w 1 bs.length v (bvs bs) := by
  intro w hh _ f
  obtain ⟨a, c, rfl, h | ⟨b, o, L, T, fz, rfl, hF, hl, ht⟩⟩ := h
  · subst h
    cases a with
    | none => rfl
    | some a => exact .inl ⟨rfl, rfl⟩
  · exact .inr ⟨rfl, L, T, fz, f.frm _ _ hF, by simpa using hl, by rw [Nat.mul_one]; exact ht.symm⟩

theorem RdB.len {F : Hp} {v : Value} {bs : Bytes} (h : RdB F v bs) : lenV v = some bs.length := by
  obtain ⟨a, c, rfl, _⟩ := h; rfl

theorem RdB.nil {F : Hp} : RdB F (.slice none 0 0) [] := ⟨none, 0, rfl, .inl rfl⟩

/-- rows of bytes that can be read in the frame -/
def RdBB (F : Hp) (v : Value) (bss : List Bytes) : Prop := ∃ a c, v = .slice a bss.length c ∧
  (bss = [] ∨ ∃ b o L T fz, a = some ⟨b, o, none⟩ ∧ F b = some (.cells (List.toArray L) T fz) ∧ o + bss.length ≤ L.length ∧ ∀ i bs, bss[i]? = some bs → ∃ x, L[o + i]? = some x ∧ RdB F x bs)

theorem RdBB.ext {F F' : Hp} (e : Ext F F') {v : Value} {bss : List Bytes} (h : RdBB F v bss) : RdBB F' v bss := by
  obtain ⟨a, c, hv, h⟩ := h
  refine ⟨a, c, hv, h.imp id ?_⟩
  rintro ⟨b, o, L, T, fz, ha, hF, hl, r⟩
  refine ⟨b, o, L, T, fz, ha, e _ _ hF, hl, fun i bs hi => ?_⟩
  obtain ⟨x, h1, h2⟩ := r i bs hi
  exact ⟨x, h1, h2.ext e⟩

/-- what a slice that owns its array lends -/
theorem OwnI.rdB {a : Option Addr} {n c : Nat} {T : TypeId} {bs : Bytes} {G : List HA} (h : OwnI a n c 1 T (bvs bs) G) {F : Hp} (k : Known G F) : RdB F (.slice a n c) bs := by
  obtain ⟨hl, h⟩ := h
  have hn : n = bs.length := by rw [bvs_len] at hl; omega
  subst hn
  refine ⟨a, c, rfl, ?_⟩
  rcases h with ⟨_, h, _, _⟩ | ⟨b, sp, rfl, hc, hcap, rfl⟩
  · exact .inl (List.length_eq_zero_iff.1 h)
  · refine .inr ⟨b, 0, bvs bs ++ sp, T, (0, 0), rfl, k _ _ m0, by simp [bvs_len], by simp [← bvs_len bs]⟩

/-- a block of bytes that is known -/
theorem rdB_of {F : Hp} {b o : Nat} {L : List Value} {T : TypeId} {fz : Nat × Nat} {bs : Bytes} {c : Nat} (hF : F b = some (.cells L.toArray T fz)) (hl : o + bs.length ≤ L.length) (ht : (L.drop o).take bs.length = bvs bs) :
    RdB F (.slice (some ⟨b, o, none⟩) bs.length c) bs := ⟨_, c, rfl, .inr ⟨b, o, L, T, fz, rfl, hF, hl, ht⟩⟩

/-- a reader in memory -/
def RdI (r : Nat) (R : Rd) (G : List HA) : Prop := ∃ a c, (R.b = [] ∧ G = [.pt r (.cells [.slice a R.b.length c, .bool R.bad].toArray 82 (0, 0))]) ∨
  ∃ b o L T fz, a = some ⟨b, o, none⟩ ∧ o + R.b.length ≤ L.length ∧ R.b.length ≤ c ∧ (L.drop o).take R.b.length = bvs R.b ∧
    G = [.pt r (.cells [.slice a R.b.length c, .bool R.bad].toArray 82 (0, 0)), .pt b (.cells (List.toArray L) T fz)]
def RdP (r : Nat) (R : Rd) : HA := grp (RdI r R)

end Eng
end Go.Proofs.Ytbhlolmglieehaa

/- Numbers as bytes: rec's functions. -/
set_option linter.unusedSimpArgs false
set_option linter.unusedVariables false
namespace Go.Proofs.Ytbhlolmglieehaa
namespace Eng
attribute [local irreducible] Ops Segs Run Spec

theorem wrap8 (n : Nat) : IntKind.u8.wrap ((n : Nat) : Int) = ((UInt8.ofNat n).toNat : Int) := by
  unfold IntKind.wrap
  simp only [IntKind.signed, IntKind.bits, Bool.false_and, Bool.false_eq_true, if_false, UInt8.toNat_ofNat']
  omega

theorem rec_number (n : Nat) (hn : n < 4294967296) (F : Hp) : Spec Try.prog 41 [.int .u32 n].toArray F [] fun v H => ∃ b, v = .slice (some ⟨b, 0, none⟩) 4 4 ∧ H = [.pt b (.cells (bvs (le4 n)).toArray 5 (0, 0))] := by
  refine Spec.enter (n := 15) Try.func41 ok_rec_number rfl (by simp) ?_
  unfold ec_rec_number
  simp only [argFr, Nat.reduceAdd]
  (repeat (first | (apply Ops.q; rfl; rfl) | (apply Ops.gyB; rfl; rfl) | (apply Ops.gnB; rfl; decide) | (apply Ops.add; rfl; rfl; (constructor <;> omega)) | (apply Ops.sub; rfl; rfl; (constructor <;> omega)) | (apply Ops.rem; rfl; rfl; omega; omega) | (apply Ops.quo; rfl; rfl; (constructor <;> omega); omega) | (apply Ops.ld; rfl; (first | exact m0 | exact m1 | exact m2 | exact m3 | exact m4 | exact m5 | exact m6); rfl) | (apply Ops.st0; rfl; rfl; rfl; rfl; (first | exact u0 | exact u1 | exact u2 | exact u3 | exact u4 | exact u5); focus (simp; done)) | refine Ops.nil ?_ | refine Segs.nil ?_ | (apply Segs.oneS; rfl) | refine Run.seq ?_ | refine Run.reg ?_ | refine Run.block ?_ | refine Run.blk ?_ | refine Run.skip ?_))
  refine Ops.p rfl ?_
  (repeat (first | (apply Ops.q; rfl; rfl) | (apply Ops.gyB; rfl; rfl) | (apply Ops.gnB; rfl; decide) | (apply Ops.add; rfl; rfl; (constructor <;> omega)) | (apply Ops.sub; rfl; rfl; (constructor <;> omega)) | (apply Ops.rem; rfl; rfl; omega; omega) | (apply Ops.quo; rfl; rfl; (constructor <;> omega); omega) | (apply Ops.ld; rfl; (first | exact m0 | exact m1 | exact m2 | exact m3 | exact m4 | exact m5 | exact m6); rfl) | (apply Ops.st0; rfl; rfl; rfl; rfl; (first | exact u0 | exact u1 | exact u2 | exact u3 | exact u4 | exact u5); focus (simp; done)) | refine Ops.nil ?_ | refine Segs.nil ?_ | (apply Segs.oneS; rfl) | refine Run.seq ?_ | refine Run.reg ?_ | refine Run.block ?_ | refine Run.blk ?_ | refine Run.skip ?_))
  refine Ops.shr (j := 8) rfl rfl rfl (by decide) ?_
  refine Ops.p rfl ?_
  (repeat (first | (apply Ops.q; rfl; rfl) | (apply Ops.gyB; rfl; rfl) | (apply Ops.gnB; rfl; decide) | (apply Ops.add; rfl; rfl; (constructor <;> omega)) | (apply Ops.sub; rfl; rfl; (constructor <;> omega)) | (apply Ops.rem; rfl; rfl; omega; omega) | (apply Ops.quo; rfl; rfl; (constructor <;> omega); omega) | (apply Ops.ld; rfl; (first | exact m0 | exact m1 | exact m2 | exact m3 | exact m4 | exact m5 | exact m6); rfl) | (apply Ops.st0; rfl; rfl; rfl; rfl; (first | exact u0 | exact u1 | exact u2 | exact u3 | exact u4 | exact u5); focus (simp; done)) | refine Ops.nil ?_ | refine Segs.nil ?_ | (apply Segs.oneS; rfl) | refine Run.seq ?_ | refine Run.reg ?_ | refine Run.block ?_ | refine Run.blk ?_ | refine Run.skip ?_))
  refine Ops.shr (j := 16) rfl rfl rfl (by decide) ?_
  refine Ops.p rfl ?_
  (repeat (first | (apply Ops.q; rfl; rfl) | (apply Ops.gyB; rfl; rfl) | (apply Ops.gnB; rfl; decide) | (apply Ops.add; rfl; rfl; (constructor <;> omega)) | (apply Ops.sub; rfl; rfl; (constructor <;> omega)) | (apply Ops.rem; rfl; rfl; omega; omega) | (apply Ops.quo; rfl; rfl; (constructor <;> omega); omega) | (apply Ops.ld; rfl; (first | exact m0 | exact m1 | exact m2 | exact m3 | exact m4 | exact m5 | exact m6); rfl) | (apply Ops.st0; rfl; rfl; rfl; rfl; (first | exact u0 | exact u1 | exact u2 | exact u3 | exact u4 | exact u5); focus (simp; done)) | refine Ops.nil ?_ | refine Segs.nil ?_ | (apply Segs.oneS; rfl) | refine Run.seq ?_ | refine Run.reg ?_ | refine Run.block ?_ | refine Run.blk ?_ | refine Run.skip ?_))
  refine Ops.shr (j := 24) rfl rfl rfl (by decide) ?_
  refine Ops.p rfl ?_
  simp only [wrap8, Nat.shiftRight_eq_div_pow, Nat.reducePow]
  refine Ops.lit (bvs (le4 n)) rfl rfl fun b => ?_
  (repeat (first | (apply Ops.q; rfl; rfl) | (apply Ops.gyB; rfl; rfl) | (apply Ops.gnB; rfl; decide) | (apply Ops.add; rfl; rfl; (constructor <;> omega)) | (apply Ops.sub; rfl; rfl; (constructor <;> omega)) | (apply Ops.rem; rfl; rfl; omega; omega) | (apply Ops.quo; rfl; rfl; (constructor <;> omega); omega) | (apply Ops.ld; rfl; (first | exact m0 | exact m1 | exact m2 | exact m3 | exact m4 | exact m5 | exact m6); rfl) | (apply Ops.st0; rfl; rfl; rfl; rfl; (first | exact u0 | exact u1 | exact u2 | exact u3 | exact u4 | exact u5); focus (simp; done)) | refine Ops.nil ?_ | refine Segs.nil ?_ | (apply Segs.oneS; rfl) | refine Run.seq ?_ | refine Run.reg ?_ | refine Run.block ?_ | refine Run.blk ?_ | refine Run.skip ?_))
  exact Run.ret1 Try.func41 rfl rfl (fun h q => q) ⟨b, rfl, rfl⟩

theorem rec_Num (n : Nat) (hn : n < 4294967296) (F : Hp) : Spec Try.prog 32 [.int .i64 n].toArray F [] fun v H => ∃ b, v = .slice (some ⟨b, 0, none⟩) 4 4 ∧ H = [.pt b (.cells (bvs (le4 n)).toArray 5 (0, 0))] := by
  refine Spec.enter (n := 6) Try.func32 ok_rec_Num rfl (by simp) ?_
  unfold ec_rec_Num
  simp only [argFr, Nat.reduceAdd]
  (repeat (first | (apply Ops.q; rfl; rfl) | (apply Ops.gyB; rfl; rfl) | (apply Ops.gnB; rfl; decide) | (apply Ops.add; rfl; rfl; (constructor <;> omega)) | (apply Ops.sub; rfl; rfl; (constructor <;> omega)) | (apply Ops.rem; rfl; rfl; omega; omega) | (apply Ops.quo; rfl; rfl; (constructor <;> omega); omega) | (apply Ops.ld; rfl; (first | exact m0 | exact m1 | exact m2 | exact m3 | exact m4 | exact m5 | exact m6); rfl) | (apply Ops.st0; rfl; rfl; rfl; rfl; (first | exact u0 | exact u1 | exact u2 | exact u3 | exact u4 | exact u5); focus (simp; done)) | refine Ops.nil ?_ | refine Segs.nil ?_ | (apply Segs.oneS; rfl) | refine Run.seq ?_ | refine Run.reg ?_ | refine Run.block ?_ | refine Run.blk ?_ | refine Run.skip ?_))
  refine Ops.pE (v' := .int .u32 n) rfl (by rw [wrap_u32 (by omega) (by omega)]) ?_
  refine Ops.call1 rfl .nil (fun F' e kn => rec_number n hn F') ?_
  rintro v G ⟨b, rfl, rfl⟩
  (repeat (first | (apply Ops.q; rfl; rfl) | (apply Ops.gyB; rfl; rfl) | (apply Ops.gnB; rfl; decide) | (apply Ops.add; rfl; rfl; (constructor <;> omega)) | (apply Ops.sub; rfl; rfl; (constructor <;> omega)) | (apply Ops.rem; rfl; rfl; omega; omega) | (apply Ops.quo; rfl; rfl; (constructor <;> omega); omega) | (apply Ops.ld; rfl; (first | exact m0 | exact m1 | exact m2 | exact m3 | exact m4 | exact m5 | exact m6); rfl) | (apply Ops.st0; rfl; rfl; rfl; rfl; (first | exact u0 | exact u1 | exact u2 | exact u3 | exact u4 | exact u5); focus (simp; done)) | refine Ops.nil ?_ | refine Segs.nil ?_ | (apply Segs.oneS; rfl) | refine Run.seq ?_ | refine Run.reg ?_ | refine Run.block ?_ | refine Run.blk ?_ | refine Run.skip ?_))
  exact Run.ret1 Try.func32 rfl rfl (fun h q => q) ⟨b, rfl, rfl⟩

theorem rec_Read (v : Value) (bs : Bytes) (F : Hp) (hb : RdB F v bs) (hlen : bs.length ≤ 1099511627776) : Spec Try.prog 35 [v].toArray F [] fun v H => ∃ r, v = .pointer (some ⟨r, 0, none⟩) ∧ H = [RdP r ⟨bs, false⟩] := by
  refine Spec.enter (n := 7) Try.func35 ok_rec_Read rfl (by simp) ?_
  unfold ec_rec_Read
  simp only [argFr, Nat.reduceAdd]
  (repeat (first | (apply Ops.q; rfl; rfl) | (apply Ops.gyB; rfl; rfl) | (apply Ops.gnB; rfl; decide) | (apply Ops.add; rfl; rfl; (constructor <;> omega)) | (apply Ops.sub; rfl; rfl; (constructor <;> omega)) | (apply Ops.rem; rfl; rfl; omega; omega) | (apply Ops.quo; rfl; rfl; (constructor <;> omega); omega) | (apply Ops.ld; rfl; (first | exact m0 | exact m1 | exact m2 | exact m3 | exact m4 | exact m5 | exact m6); rfl) | (apply Ops.st0; rfl; rfl; rfl; rfl; (first | exact u0 | exact u1 | exact u2 | exact u3 | exact u4 | exact u5); focus (simp; done)) | refine Ops.nil ?_ | refine Segs.nil ?_ | (apply Segs.oneS; rfl) | refine Run.seq ?_ | refine Run.reg ?_ | refine Run.block ?_ | refine Run.blk ?_ | refine Run.skip ?_))
  refine Ops.appN (ys := bvs bs) rfl rfl hb.len (fun w h q f => hb.shows w h q f) (bvs_one bs) (by rw [bvs_len]; simp) (by simp) (by omega) fun a c => ?_
  refine Ops.bld [.slice a bs.length c, .bool false] rfl rfl ?_
  refine Ops.box (vs := [.slice a bs.length c, .bool false]) rfl rfl fun r => ?_
  (repeat (first | (apply Ops.q; rfl; rfl) | (apply Ops.gyB; rfl; rfl) | (apply Ops.gnB; rfl; decide) | (apply Ops.add; rfl; rfl; (constructor <;> omega)) | (apply Ops.sub; rfl; rfl; (constructor <;> omega)) | (apply Ops.rem; rfl; rfl; omega; omega) | (apply Ops.quo; rfl; rfl; (constructor <;> omega); omega) | (apply Ops.ld; rfl; (first | exact m0 | exact m1 | exact m2 | exact m3 | exact m4 | exact m5 | exact m6); rfl) | (apply Ops.st0; rfl; rfl; rfl; rfl; (first | exact u0 | exact u1 | exact u2 | exact u3 | exact u4 | exact u5); focus (simp; done)) | refine Ops.nil ?_ | refine Segs.nil ?_ | (apply Segs.oneS; rfl) | refine Run.seq ?_ | refine Run.reg ?_ | refine Run.block ?_ | refine Run.blk ?_ | refine Run.skip ?_))
  refine Run.open_ s1 fun G ⟨hl, hG⟩ => ?_
  rcases hG with ⟨ha, h0, hc, hG⟩ | ⟨b, sp, ha, hnc, hcap, hG⟩
  · subst hG
    have : bs = [] := List.length_eq_zero_iff.1 h0
    subst this
    exact Run.ret1 Try.func35 rfl rfl (fold_grp (I := RdI r ⟨[], false⟩) (.cons s0 .nil) ⟨a, c, .inl ⟨rfl, rfl⟩⟩) ⟨r, rfl, rfl⟩
  · subst hG; subst ha
    simp only [List.cons_append, List.nil_append]
    refine Run.ret1 Try.func35 rfl rfl (fold_grp (I := RdI r ⟨bs, false⟩) (.cons s1 (.cons s0 .nil)) ⟨_, c, .inr ⟨b, 0, bvs bs ++ sp, _, _, rfl, ?_, hnc, ?_, rfl⟩⟩) ⟨r, rfl, rfl⟩
    · simp [bvs_len]
    · simp [← bvs_len bs]

/-- a reader is opened: its cells, and what it has of a block -/
theorem rec_Reader_Good (r : Nat) (R : Rd) (F : Hp) : Spec Try.prog 38 [.pointer (some ⟨r, 0, none⟩)].toArray F [RdP r R] fun v H => v = .bool (!R.bad) ∧ H = [RdP r R] := by
  refine Spec.enter (n := 8) Try.func38 ok_rec_Reader_Good rfl (by simp) ?_
  unfold ec_rec_Reader_Good
  simp only [argFr, Nat.reduceAdd]
  refine Run.open_ s0 fun G hG => ?_
  obtain ⟨a, c, ⟨hb, rfl⟩ | ⟨b, o, L, T, fz, ha, hl, hlc, ht, rfl⟩⟩ := hG
  · simp only [List.cons_append, List.nil_append]
    (repeat (first | (apply Ops.q; rfl; rfl) | (apply Ops.gyB; rfl; rfl) | (apply Ops.gnB; rfl; decide) | (apply Ops.add; rfl; rfl; (constructor <;> omega)) | (apply Ops.sub; rfl; rfl; (constructor <;> omega)) | (apply Ops.rem; rfl; rfl; omega; omega) | (apply Ops.quo; rfl; rfl; (constructor <;> omega); omega) | (apply Ops.ld; rfl; (first | exact m0 | exact m1 | exact m2 | exact m3 | exact m4 | exact m5 | exact m6); rfl) | (apply Ops.st0; rfl; rfl; rfl; rfl; (first | exact u0 | exact u1 | exact u2 | exact u3 | exact u4 | exact u5); focus (simp; done)) | refine Ops.nil ?_ | refine Segs.nil ?_ | (apply Segs.oneS; rfl) | refine Run.seq ?_ | refine Run.reg ?_ | refine Run.block ?_ | refine Run.blk ?_ | refine Run.skip ?_))
    exact Run.ret1 Try.func38 rfl rfl (fold_grp (.cons s0 .nil) ⟨a, c, .inl ⟨hb, rfl⟩⟩) ⟨rfl, rfl⟩
  · simp only [List.cons_append, List.nil_append]
    (repeat (first | (apply Ops.q; rfl; rfl) | (apply Ops.gyB; rfl; rfl) | (apply Ops.gnB; rfl; decide) | (apply Ops.add; rfl; rfl; (constructor <;> omega)) | (apply Ops.sub; rfl; rfl; (constructor <;> omega)) | (apply Ops.rem; rfl; rfl; omega; omega) | (apply Ops.quo; rfl; rfl; (constructor <;> omega); omega) | (apply Ops.ld; rfl; (first | exact m0 | exact m1 | exact m2 | exact m3 | exact m4 | exact m5 | exact m6); rfl) | (apply Ops.st0; rfl; rfl; rfl; rfl; (first | exact u0 | exact u1 | exact u2 | exact u3 | exact u4 | exact u5); focus (simp; done)) | refine Ops.nil ?_ | refine Segs.nil ?_ | (apply Segs.oneS; rfl) | refine Run.seq ?_ | refine Run.reg ?_ | refine Run.block ?_ | refine Run.blk ?_ | refine Run.skip ?_))
    exact Run.ret1 Try.func38 rfl rfl (fold_grp (.cons s0 (.cons s0 .nil)) ⟨a, c, .inr ⟨b, o, L, T, fz, ha, hl, hlc, ht, rfl⟩⟩) ⟨rfl, rfl⟩

end Eng
end Go.Proofs.Ytbhlolmglieehaa

/- Numbers taken off bytes. -/
set_option linter.unusedSimpArgs false
set_option linter.unusedVariables false
namespace Go.Proofs.Ytbhlolmglieehaa
namespace Eng
attribute [local irreducible] Ops Segs Run Spec

theorem or_add {x y i : Nat} (hx : x < 2 ^ i) : x ||| (y * 2 ^ i) = x + y * 2 ^ i := by
  have := Nat.shiftLeft_add_eq_or_of_lt hx y
  rw [Nat.shiftLeft_eq] at this
  rw [Nat.or_comm, ← this, Nat.add_comm]

theorem at_of {L : List Value} {o n : Nat} {bs : Bytes} (ht : (L.drop o).take n = bvs bs) {i : Nat} {b : UInt8} (hi : i < n) (hb : bs[i]? = some b) : L[o + i]? = some (bv b) := by
  have := congrArg (fun l => l[i]?) ht
  simp only [List.getElem?_take, if_pos hi, List.getElem?_drop, bvs, List.getElem?_map, hb] at this
  exact this

theorem rec_Reader_Num (r : Nat) (R : Rd) (most : Int) (hR : R.b.length ≤ 1099511627776) (F : Hp) :
    Spec Try.prog 36 [.pointer (some ⟨r, 0, none⟩), .int .i64 most].toArray F [RdP r R] fun v H => v = .int .i64 (R.num most).1 ∧ H = [RdP r (R.num most).2] := by
  refine Spec.enter (n := 72) Try.func36 ok_rec_Reader_Num rfl (by simp) ?_
  unfold ec_rec_Reader_Num
  simp only [argFr, Nat.reduceAdd]
  refine Run.open_ s0 fun G hG => ?_
  have short : R.b.length < 4 → R.num most = (0, ⟨[], true⟩) := by
    intro h
    obtain ⟨b, bad⟩ := R
    match b, h with
    | [], _ => rfl
    | [_], _ => rfl
    | [_, _], _ => rfl
    | [_, _, _], _ => rfl
    | _ :: _ :: _ :: _ :: _, h => simp at h; omega
  obtain ⟨a, c, ⟨hb, rfl⟩ | ⟨b, o, L, T, fz, rfl, hl, hlc, ht, rfl⟩⟩ := hG
  · simp only [List.cons_append, List.nil_append]
    (repeat (first | (apply Ops.q; rfl; rfl) | (apply Ops.gyB; rfl; rfl) | (apply Ops.gnB; rfl; decide) | (apply Ops.add; rfl; rfl; (constructor <;> omega)) | (apply Ops.sub; rfl; rfl; (constructor <;> omega)) | (apply Ops.rem; rfl; rfl; omega; omega) | (apply Ops.quo; rfl; rfl; (constructor <;> omega); omega) | (apply Ops.ld; rfl; (first | exact m0 | exact m1 | exact m2 | exact m3 | exact m4 | exact m5 | exact m6); rfl) | (apply Ops.st0; rfl; rfl; rfl; rfl; (first | exact u0 | exact u1 | exact u2 | exact u3 | exact u4 | exact u5); focus (simp; done)) | refine Ops.nil ?_ | refine Segs.nil ?_ | (apply Segs.oneS; rfl) | refine Run.seq ?_ | refine Run.reg ?_ | refine Run.block ?_ | refine Run.blk ?_ | refine Run.skip ?_))
    refine Run.condD rfl (fun h => ?_) (fun h => ?_)
    · rw [short (by rw [hb]; simp)]
      (repeat (first | (apply Ops.q; rfl; rfl) | (apply Ops.gyB; rfl; rfl) | (apply Ops.gnB; rfl; decide) | (apply Ops.add; rfl; rfl; (constructor <;> omega)) | (apply Ops.sub; rfl; rfl; (constructor <;> omega)) | (apply Ops.rem; rfl; rfl; omega; omega) | (apply Ops.quo; rfl; rfl; (constructor <;> omega); omega) | (apply Ops.ld; rfl; (first | exact m0 | exact m1 | exact m2 | exact m3 | exact m4 | exact m5 | exact m6); rfl) | (apply Ops.st0; rfl; rfl; rfl; rfl; (first | exact u0 | exact u1 | exact u2 | exact u3 | exact u4 | exact u5); focus (simp; done)) | refine Ops.nil ?_ | refine Segs.nil ?_ | (apply Segs.oneS; rfl) | refine Run.seq ?_ | refine Run.reg ?_ | refine Run.block ?_ | refine Run.blk ?_ | refine Run.skip ?_))
      exact Run.ret1 Try.func36 rfl rfl (fold_grp (I := RdI r ⟨[], true⟩) (.cons s0 .nil) ⟨none, 0, .inl ⟨rfl, rfl⟩⟩) ⟨rfl, rfl⟩
    · rw [hb] at h; simp at h
  · simp only [List.cons_append, List.nil_append]
    (repeat (first | (apply Ops.q; rfl; rfl) | (apply Ops.gyB; rfl; rfl) | (apply Ops.gnB; rfl; decide) | (apply Ops.add; rfl; rfl; (constructor <;> omega)) | (apply Ops.sub; rfl; rfl; (constructor <;> omega)) | (apply Ops.rem; rfl; rfl; omega; omega) | (apply Ops.quo; rfl; rfl; (constructor <;> omega); omega) | (apply Ops.ld; rfl; (first | exact m0 | exact m1 | exact m2 | exact m3 | exact m4 | exact m5 | exact m6); rfl) | (apply Ops.st0; rfl; rfl; rfl; rfl; (first | exact u0 | exact u1 | exact u2 | exact u3 | exact u4 | exact u5); focus (simp; done)) | refine Ops.nil ?_ | refine Segs.nil ?_ | (apply Segs.oneS; rfl) | refine Run.seq ?_ | refine Run.reg ?_ | refine Run.block ?_ | refine Run.blk ?_ | refine Run.skip ?_))
    refine Run.condD rfl (fun h => ?_) (fun h => ?_)
    · rw [short (by omega)]
      (repeat (first | (apply Ops.q; rfl; rfl) | (apply Ops.gyB; rfl; rfl) | (apply Ops.gnB; rfl; decide) | (apply Ops.add; rfl; rfl; (constructor <;> omega)) | (apply Ops.sub; rfl; rfl; (constructor <;> omega)) | (apply Ops.rem; rfl; rfl; omega; omega) | (apply Ops.quo; rfl; rfl; (constructor <;> omega); omega) | (apply Ops.ld; rfl; (first | exact m0 | exact m1 | exact m2 | exact m3 | exact m4 | exact m5 | exact m6); rfl) | (apply Ops.st0; rfl; rfl; rfl; rfl; (first | exact u0 | exact u1 | exact u2 | exact u3 | exact u4 | exact u5); focus (simp; done)) | refine Ops.nil ?_ | refine Segs.nil ?_ | (apply Segs.oneS; rfl) | refine Run.seq ?_ | refine Run.reg ?_ | refine Run.block ?_ | refine Run.blk ?_ | refine Run.skip ?_))
      exact Run.ret1 Try.func36 rfl rfl (fun h q => take_sub (.cons s0 .nil) h (fold_grp (I := RdI r ⟨[], true⟩) (.cons s0 .nil) ⟨none, 0, .inl ⟨rfl, rfl⟩⟩ h q)) ⟨rfl, rfl⟩
    · obtain ⟨bs, bad⟩ := R
      dsimp only at *
      have h4 : ∃ b0 b1 b2 b3 rest, bs = b0 :: b1 :: b2 :: b3 :: rest := by
        match bs, h with
        | b0 :: b1 :: b2 :: b3 :: rest, _ => exact ⟨_, _, _, _, _, rfl⟩
        | [], h => simp at h
        | [_], h => simp at h
        | [_, _], h => simp at h
        | [_, _, _], h => simp at h
      obtain ⟨b0, b1, b2, b3, rest, rfl⟩ := h4
      · skip
        have g0 := at_of ht (i := 0) (by simp) rfl
        have g1 := at_of ht (i := 1) (by simp) rfl
        have g2 := at_of ht (i := 2) (by simp) rfl
        have g3 := at_of ht (i := 3) (by simp) rfl
        have l0 := b0.toNat_lt
        have l1 := b1.toNat_lt
        have l2 := b2.toNat_lt
        have l3 := b3.toNat_lt
        have hlen : ((b0 :: b1 :: b2 :: b3 :: rest : Bytes).length : Int) = rest.length + 4 := by simp; omega
        have hlenN : (b0 :: b1 :: b2 :: b3 :: rest : Bytes).length = rest.length + 4 := by simp
        have hv := val4_lt b0 b1 b2 b3
        (repeat (first | (apply Ops.q; rfl; rfl) | (apply Ops.gyB; rfl; rfl) | (apply Ops.gnB; rfl; decide) | (apply Ops.add; rfl; rfl; (constructor <;> omega)) | (apply Ops.sub; rfl; rfl; (constructor <;> omega)) | (apply Ops.rem; rfl; rfl; omega; omega) | (apply Ops.quo; rfl; rfl; (constructor <;> omega); omega) | (apply Ops.ld; rfl; (first | exact m0 | exact m1 | exact m2 | exact m3 | exact m4 | exact m5 | exact m6); rfl) | (apply Ops.st0; rfl; rfl; rfl; rfl; (first | exact u0 | exact u1 | exact u2 | exact u3 | exact u4 | exact u5); focus (simp; done)) | refine Ops.nil ?_ | refine Segs.nil ?_ | (apply Segs.oneS; rfl) | refine Run.seq ?_ | refine Run.reg ?_ | refine Run.block ?_ | refine Run.blk ?_ | refine Run.skip ?_))
        refine Segs.lend [_, _] (.cons s0 (.cons s0 .nil)) fun F1 x1 k1 => ?_
        (repeat (first | (apply Ops.q; rfl; rfl) | (apply Ops.gyB; rfl; rfl) | (apply Ops.gnB; rfl; decide) | (apply Ops.add; rfl; rfl; (constructor <;> omega)) | (apply Ops.sub; rfl; rfl; (constructor <;> omega)) | (apply Ops.rem; rfl; rfl; omega; omega) | (apply Ops.quo; rfl; rfl; (constructor <;> omega); omega) | (apply Ops.ld; rfl; (first | exact m0 | exact m1 | exact m2 | exact m3 | exact m4 | exact m5 | exact m6); rfl) | (apply Ops.st0; rfl; rfl; rfl; rfl; (first | exact u0 | exact u1 | exact u2 | exact u3 | exact u4 | exact u5); focus (simp; done)) | refine Ops.nil ?_ | refine Segs.nil ?_ | (apply Segs.oneS; rfl) | refine Run.seq ?_ | refine Run.reg ?_ | refine Run.block ?_ | refine Run.blk ?_ | refine Run.skip ?_))
        refine Ops.ldF rfl (k1 _ _ m0) rfl ?_
        refine Ops.ixS rfl rfl ⟨by omega, by omega⟩ ?_
        refine Ops.ldF rfl (k1 _ _ m1) g0 ?_
        refine Ops.pE (v' := .int .u32 (b0.toNat : Int)) rfl (by rw [wrap_u32 (by omega) (by omega)]) ?_
        refine Ops.ldF rfl (k1 _ _ m0) rfl ?_
        refine Ops.ixS rfl rfl ⟨by omega, by omega⟩ ?_
        refine Ops.ldF rfl (k1 _ _ m1) g1 ?_
        refine Ops.pE (v' := .int .u32 (b1.toNat : Int)) rfl (by rw [wrap_u32 (by omega) (by omega)]) ?_
        refine Ops.pE (v' := .int .u32 ((b1.toNat * 2 ^ 8 : Nat) : Int)) rfl (by rw [show min (Int.toNat 8) IntKind.u32.bits = 8 from rfl, wrap_u32 (by omega) (by omega)]; rfl) ?_
        refine Ops.or (k := .u32) rfl rfl rfl rfl rfl (by simp [IntKind.bits]; omega) (by simp [IntKind.bits]; omega) ?_
        rw [or_add (i := 8) (by omega)]
        refine Ops.ldF rfl (k1 _ _ m0) rfl ?_
        refine Ops.ixS rfl rfl ⟨by omega, by omega⟩ ?_
        refine Ops.ldF rfl (k1 _ _ m1) g2 ?_
        refine Ops.pE (v' := .int .u32 (b2.toNat : Int)) rfl (by rw [wrap_u32 (by omega) (by omega)]) ?_
        refine Ops.pE (v' := .int .u32 ((b2.toNat * 2 ^ 16 : Nat) : Int)) rfl (by rw [show min (Int.toNat 16) IntKind.u32.bits = 16 from rfl, wrap_u32 (by omega) (by omega)]; rfl) ?_
        refine Ops.or (k := .u32) rfl rfl rfl rfl rfl (by simp [IntKind.bits]; omega) (by simp [IntKind.bits]; omega) ?_
        rw [or_add (i := 16) (by omega)]
        refine Ops.ldF rfl (k1 _ _ m0) rfl ?_
        refine Ops.ixS rfl rfl ⟨by omega, by omega⟩ ?_
        refine Ops.ldF rfl (k1 _ _ m1) g3 ?_
        refine Ops.pE (v' := .int .u32 (b3.toNat : Int)) rfl (by rw [wrap_u32 (by omega) (by omega)]) ?_
        refine Ops.pE (v' := .int .u32 ((b3.toNat * 2 ^ 24 : Nat) : Int)) rfl (by rw [show min (Int.toNat 24) IntKind.u32.bits = 24 from rfl, wrap_u32 (by omega) (by omega)]; rfl) ?_
        (repeat (first | (apply Ops.q; rfl; rfl) | (apply Ops.gyB; rfl; rfl) | (apply Ops.gnB; rfl; decide) | (apply Ops.add; rfl; rfl; (constructor <;> omega)) | (apply Ops.sub; rfl; rfl; (constructor <;> omega)) | (apply Ops.rem; rfl; rfl; omega; omega) | (apply Ops.quo; rfl; rfl; (constructor <;> omega); omega) | (apply Ops.ld; rfl; (first | exact m0 | exact m1 | exact m2 | exact m3 | exact m4 | exact m5 | exact m6); rfl) | (apply Ops.st0; rfl; rfl; rfl; rfl; (first | exact u0 | exact u1 | exact u2 | exact u3 | exact u4 | exact u5); focus (simp; done)) | refine Ops.nil ?_ | refine Segs.nil ?_ | (apply Segs.oneS; rfl) | refine Run.seq ?_ | refine Run.reg ?_ | refine Run.block ?_ | refine Run.blk ?_ | refine Run.skip ?_))
        refine Ops.or (k := .u32) rfl rfl rfl rfl rfl (by simp [IntKind.bits]; omega) (by simp [IntKind.bits]; omega) ?_
        rw [or_add (i := 24) (by omega), show b0.toNat + b1.toNat * 2 ^ 8 + b2.toNat * 2 ^ 16 + b3.toNat * 2 ^ 24 = val4 b0 b1 b2 b3 from rfl]
        (repeat (first | (apply Ops.q; rfl; rfl) | (apply Ops.gyB; rfl; rfl) | (apply Ops.gnB; rfl; decide) | (apply Ops.add; rfl; rfl; (constructor <;> omega)) | (apply Ops.sub; rfl; rfl; (constructor <;> omega)) | (apply Ops.rem; rfl; rfl; omega; omega) | (apply Ops.quo; rfl; rfl; (constructor <;> omega); omega) | (apply Ops.ld; rfl; (first | exact m0 | exact m1 | exact m2 | exact m3 | exact m4 | exact m5 | exact m6); rfl) | (apply Ops.st0; rfl; rfl; rfl; rfl; (first | exact u0 | exact u1 | exact u2 | exact u3 | exact u4 | exact u5); focus (simp; done)) | refine Ops.nil ?_ | refine Segs.nil ?_ | (apply Segs.oneS; rfl) | refine Run.seq ?_ | refine Run.reg ?_ | refine Run.block ?_ | refine Run.blk ?_ | refine Run.skip ?_))
        refine Ops.slS rfl rfl rfl (by omega) (by omega) fun a' ha' => ?_
        (repeat (first | (apply Ops.q; rfl; rfl) | (apply Ops.gyB; rfl; rfl) | (apply Ops.gnB; rfl; decide) | (apply Ops.add; rfl; rfl; (constructor <;> omega)) | (apply Ops.sub; rfl; rfl; (constructor <;> omega)) | (apply Ops.rem; rfl; rfl; omega; omega) | (apply Ops.quo; rfl; rfl; (constructor <;> omega); omega) | (apply Ops.ld; rfl; (first | exact m0 | exact m1 | exact m2 | exact m3 | exact m4 | exact m5 | exact m6); rfl) | (apply Ops.st0; rfl; rfl; rfl; rfl; (first | exact u0 | exact u1 | exact u2 | exact u3 | exact u4 | exact u5); focus (simp; done)) | refine Ops.nil ?_ | refine Segs.nil ?_ | (apply Segs.oneS; rfl) | refine Run.seq ?_ | refine Run.reg ?_ | refine Run.block ?_ | refine Run.blk ?_ | refine Run.skip ?_))
        rw [show (b0 :: b1 :: b2 :: b3 :: rest : Bytes).length - Int.toNat 4 = rest.length from by rw [hlenN]; rfl] at *
        refine Ops.pE (v' := .int .i64 (val4 b0 b1 b2 b3 : Int)) rfl (by rw [wrap_i64 (by omega) (by omega)]) ?_
        (repeat (first | (apply Ops.q; rfl; rfl) | (apply Ops.gyB; rfl; rfl) | (apply Ops.gnB; rfl; decide) | (apply Ops.add; rfl; rfl; (constructor <;> omega)) | (apply Ops.sub; rfl; rfl; (constructor <;> omega)) | (apply Ops.rem; rfl; rfl; omega; omega) | (apply Ops.quo; rfl; rfl; (constructor <;> omega); omega) | (apply Ops.ld; rfl; (first | exact m0 | exact m1 | exact m2 | exact m3 | exact m4 | exact m5 | exact m6); rfl) | (apply Ops.st0; rfl; rfl; rfl; rfl; (first | exact u0 | exact u1 | exact u2 | exact u3 | exact u4 | exact u5); focus (simp; done)) | refine Ops.nil ?_ | refine Segs.nil ?_ | (apply Segs.oneS; rfl) | refine Run.seq ?_ | refine Run.reg ?_ | refine Run.block ?_ | refine Run.blk ?_ | refine Run.skip ?_))
        refine Run.condD rfl (fun hm => ?_) (fun hm => ?_)
        · have : Rd.num most ⟨b0 :: b1 :: b2 :: b3 :: rest, bad⟩ = (0, ⟨[], true⟩) := by simp only [Rd.num]; rw [if_pos hm]
          rw [this]
          (repeat (first | (apply Ops.q; rfl; rfl) | (apply Ops.gyB; rfl; rfl) | (apply Ops.gnB; rfl; decide) | (apply Ops.add; rfl; rfl; (constructor <;> omega)) | (apply Ops.sub; rfl; rfl; (constructor <;> omega)) | (apply Ops.rem; rfl; rfl; omega; omega) | (apply Ops.quo; rfl; rfl; (constructor <;> omega); omega) | (apply Ops.ld; rfl; (first | exact m0 | exact m1 | exact m2 | exact m3 | exact m4 | exact m5 | exact m6); rfl) | (apply Ops.st0; rfl; rfl; rfl; rfl; (first | exact u0 | exact u1 | exact u2 | exact u3 | exact u4 | exact u5); focus (simp; done)) | refine Ops.nil ?_ | refine Segs.nil ?_ | (apply Segs.oneS; rfl) | refine Run.seq ?_ | refine Run.reg ?_ | refine Run.block ?_ | refine Run.blk ?_ | refine Run.skip ?_))
          exact Run.ret1 Try.func36 rfl rfl (fun h q => take_sub (.cons s0 .nil) h (fold_grp (I := RdI r ⟨[], true⟩) (.cons s0 .nil) ⟨none, 0, .inl ⟨rfl, rfl⟩⟩ h q)) ⟨rfl, rfl⟩
        · have : Rd.num most ⟨b0 :: b1 :: b2 :: b3 :: rest, bad⟩ = ((val4 b0 b1 b2 b3 : Int), ⟨rest, bad⟩) := by simp only [Rd.num]; rw [if_neg hm]
          rw [this]
          (repeat (first | (apply Ops.q; rfl; rfl) | (apply Ops.gyB; rfl; rfl) | (apply Ops.gnB; rfl; decide) | (apply Ops.add; rfl; rfl; (constructor <;> omega)) | (apply Ops.sub; rfl; rfl; (constructor <;> omega)) | (apply Ops.rem; rfl; rfl; omega; omega) | (apply Ops.quo; rfl; rfl; (constructor <;> omega); omega) | (apply Ops.ld; rfl; (first | exact m0 | exact m1 | exact m2 | exact m3 | exact m4 | exact m5 | exact m6); rfl) | (apply Ops.st0; rfl; rfl; rfl; rfl; (first | exact u0 | exact u1 | exact u2 | exact u3 | exact u4 | exact u5); focus (simp; done)) | refine Ops.nil ?_ | refine Segs.nil ?_ | (apply Segs.oneS; rfl) | refine Run.seq ?_ | refine Run.reg ?_ | refine Run.block ?_ | refine Run.blk ?_ | refine Run.skip ?_))
          refine Ops.pE (v' := .int .i64 (val4 b0 b1 b2 b3 : Int)) rfl (by rw [wrap_i64 (by omega) (by omega)]) ?_
          (repeat (first | (apply Ops.q; rfl; rfl) | (apply Ops.gyB; rfl; rfl) | (apply Ops.gnB; rfl; decide) | (apply Ops.add; rfl; rfl; (constructor <;> omega)) | (apply Ops.sub; rfl; rfl; (constructor <;> omega)) | (apply Ops.rem; rfl; rfl; omega; omega) | (apply Ops.quo; rfl; rfl; (constructor <;> omega); omega) | (apply Ops.ld; rfl; (first | exact m0 | exact m1 | exact m2 | exact m3 | exact m4 | exact m5 | exact m6); rfl) | (apply Ops.st0; rfl; rfl; rfl; rfl; (first | exact u0 | exact u1 | exact u2 | exact u3 | exact u4 | exact u5); focus (simp; done)) | refine Ops.nil ?_ | refine Segs.nil ?_ | (apply Segs.oneS; rfl) | refine Run.seq ?_ | refine Run.reg ?_ | refine Run.block ?_ | refine Run.blk ?_ | refine Run.skip ?_))
          by_cases hr : rest = []
          · subst hr
            exact Run.ret1 Try.func36 rfl rfl (fun h q => take_sub (.cons s0 .nil) h (fold_grp (I := RdI r ⟨[], bad⟩) (.cons s0 .nil) ⟨a', c - Int.toNat 4, .inl ⟨rfl, rfl⟩⟩ h q)) ⟨rfl, rfl⟩
          · have ha2 : a' = some ⟨b, o + 4, none⟩ := by
              rcases ha' with x | x
              · rw [x]; rfl
              · exact absurd (List.length_eq_zero_iff.1 x) hr
            subst ha2
            refine Run.ret1 Try.func36 rfl rfl (fold_grp (I := RdI r ⟨rest, bad⟩) (.cons s0 (.cons s0 .nil)) ⟨_, c - Int.toNat 4, .inr ⟨b, o + 4, L, T, fz, rfl, ?_, ?_, ?_, rfl⟩⟩) ⟨rfl, rfl⟩
            · dsimp only; omega
            · dsimp only; show rest.length ≤ c - 4; omega
            · have := congrArg (fun l => l.drop 4) ht
              simp only [List.drop_take, List.drop_drop, hlenN] at this
              simpa [bvs] using this

end Eng
end Go.Proofs.Ytbhlolmglieehaa

/- Parts behind one another; sums. -/
set_option linter.unusedSimpArgs false
set_option linter.unusedVariables false
namespace Go.Proofs.Ytbhlolmglieehaa

theorem flatten_take_succ {bss : List Bytes} {i : Nat} {bs : Bytes} (h : bss[i]? = some bs) : (bss.take (i + 1)).flatten = (bss.take i).flatten ++ bs := by
  have hi : i < bss.length := by
    rcases Nat.lt_or_ge i bss.length with x | x
    · exact x
    · rw [List.getElem?_eq_none x] at h; cases h
  rw [List.getElem?_eq_getElem hi] at h
  obtain rfl := Option.some.inj h
  rw [List.take_succ_eq_append_getElem hi, List.flatten_append, List.flatten_singleton]

theorem flatten_take_le (bss : List Bytes) (i : Nat) : ((bss.take i).flatten).length ≤ bss.flatten.length := by
  have : bss.flatten = (bss.take i).flatten ++ (bss.drop i).flatten := by rw [← List.flatten_append, List.take_append_drop]
  rw [this, List.length_append]; omega

theorem part_le {bss : List Bytes} {i : Nat} {bs : Bytes} (h : bss[i]? = some bs) : bs.length ≤ bss.flatten.length := by
  have h1 := flatten_take_succ h
  have h2 := flatten_take_le bss (i + 1)
  rw [h1, List.length_append] at h2; omega

theorem bvs_app (a b : Bytes) : bvs (a ++ b) = bvs a ++ bvs b := by simp [bvs]

namespace Eng
attribute [local irreducible] Ops Segs Run Spec

theorem rec_Pack (v : Value) (bss : List Bytes) (F : Hp) (hb : RdBB F v bss) (hn : bss.length ≤ 1099511627776) (ht : bss.flatten.length ≤ 1099511627776) :
    Spec Try.prog 39 [v].toArray F [] fun v H => ∃ a c, v = .slice a bss.flatten.length c ∧ H = [OwnS a bss.flatten.length c 1 5 (bvs bss.flatten)] := by
  refine Spec.enter (n := 17) Try.func39 ok_rec_Pack rfl (by simp) ?_
  unfold ec_rec_Pack
  simp only [argFr, Nat.reduceAdd]
  obtain ⟨oa, oc, rfl, hb⟩ := hb
  (repeat (first | (apply Ops.q; rfl; rfl) | (apply Ops.gyB; rfl; rfl) | (apply Ops.gnB; rfl; decide) | (apply Ops.add; rfl; rfl; (constructor <;> omega)) | (apply Ops.sub; rfl; rfl; (constructor <;> omega)) | (apply Ops.rem; rfl; rfl; omega; omega) | (apply Ops.quo; rfl; rfl; (constructor <;> omega); omega) | (apply Ops.ld; rfl; (first | exact m0 | exact m1 | exact m2 | exact m3 | exact m4 | exact m5 | exact m6); rfl) | (apply Ops.st0; rfl; rfl; rfl; rfl; (first | exact u0 | exact u1 | exact u2 | exact u3 | exact u4 | exact u5); focus (simp; done)) | refine Ops.nil ?_ | refine Segs.nil ?_ | (apply Segs.oneS; rfl) | refine Run.seq ?_ | refine Run.reg ?_ | refine Run.block ?_ | refine Run.blk ?_ | refine Run.skip ?_))
  refine Run.loopI (ι := Nat × Option Addr × Nat) (fun x => bss.length - x.1) (fun x => x.1 ≤ bss.length)
    (fun x => [(8, .int .i64 x.1), (7, .int .i64 bss.length), (6, .slice oa bss.length oc), (3, .slice x.2.1 ((bss.take x.1).flatten).length x.2.2)])
    (fun x => [OwnS x.2.1 ((bss.take x.1).flatten).length x.2.2 1 5 (bvs ((bss.take x.1).flatten))])
    (0, none, 0) (Nat.zero_le _) (.cons rfl (.cons rfl (.cons rfl (.cons rfl .nil)))) own_new ?_
  rintro ⟨i, a, c⟩ hi ih
  dsimp only at hi ih ⊢
  unfold ec_rec_Pack_L0
  (repeat (first | (apply Ops.q; rfl; rfl) | (apply Ops.gyB; rfl; rfl) | (apply Ops.gnB; rfl; decide) | (apply Ops.add; rfl; rfl; (constructor <;> omega)) | (apply Ops.sub; rfl; rfl; (constructor <;> omega)) | (apply Ops.rem; rfl; rfl; omega; omega) | (apply Ops.quo; rfl; rfl; (constructor <;> omega); omega) | (apply Ops.ld; rfl; (first | exact m0 | exact m1 | exact m2 | exact m3 | exact m4 | exact m5 | exact m6); rfl) | (apply Ops.st0; rfl; rfl; rfl; rfl; (first | exact u0 | exact u1 | exact u2 | exact u3 | exact u4 | exact u5); focus (simp; done)) | refine Ops.nil ?_ | refine Segs.nil ?_ | (apply Segs.oneS; rfl) | refine Run.seq ?_ | refine Run.reg ?_ | refine Run.block ?_ | refine Run.blk ?_ | refine Run.skip ?_))
  refine Run.condD rfl (fun hlt => ?_) (fun hge => ?_)
  · have hlt' : i < bss.length := by omega
    have hel : bss[i]? = some bss[i] := List.getElem?_eq_getElem hlt'
    rcases hb with hb | ⟨ob, o, L, T, fz, rfl, hF, hl, hrd⟩
    · rw [hb] at hlt'; simp at hlt'
    obtain ⟨x, hx, hrx⟩ := hrd i _ hel
    have hpl := part_le hel
    have hfl := flatten_take_succ hel
    have hfle := flatten_take_le bss i
    generalize bss[i] = bs at *
    (repeat (first | (apply Ops.q; rfl; rfl) | (apply Ops.gyB; rfl; rfl) | (apply Ops.gnB; rfl; decide) | (apply Ops.add; rfl; rfl; (constructor <;> omega)) | (apply Ops.sub; rfl; rfl; (constructor <;> omega)) | (apply Ops.rem; rfl; rfl; omega; omega) | (apply Ops.quo; rfl; rfl; (constructor <;> omega); omega) | (apply Ops.ld; rfl; (first | exact m0 | exact m1 | exact m2 | exact m3 | exact m4 | exact m5 | exact m6); rfl) | (apply Ops.st0; rfl; rfl; rfl; rfl; (first | exact u0 | exact u1 | exact u2 | exact u3 | exact u4 | exact u5); focus (simp; done)) | refine Ops.nil ?_ | refine Segs.nil ?_ | (apply Segs.oneS; rfl) | refine Run.seq ?_ | refine Run.reg ?_ | refine Run.block ?_ | refine Run.blk ?_ | refine Run.skip ?_))
    refine Ops.ixS rfl rfl ⟨by omega, by omega⟩ ?_
    refine Ops.ldF rfl hF (by rw [Int.toNat_natCast, Nat.mul_one]; exact hx) ?_
    (repeat (first | (apply Ops.q; rfl; rfl) | (apply Ops.gyB; rfl; rfl) | (apply Ops.gnB; rfl; decide) | (apply Ops.add; rfl; rfl; (constructor <;> omega)) | (apply Ops.sub; rfl; rfl; (constructor <;> omega)) | (apply Ops.rem; rfl; rfl; omega; omega) | (apply Ops.quo; rfl; rfl; (constructor <;> omega); omega) | (apply Ops.ld; rfl; (first | exact m0 | exact m1 | exact m2 | exact m3 | exact m4 | exact m5 | exact m6); rfl) | (apply Ops.st0; rfl; rfl; rfl; rfl; (first | exact u0 | exact u1 | exact u2 | exact u3 | exact u4 | exact u5); focus (simp; done)) | refine Ops.nil ?_ | refine Segs.nil ?_ | (apply Segs.oneS; rfl) | refine Run.seq ?_ | refine Run.reg ?_ | refine Run.block ?_ | refine Run.blk ?_ | refine Run.skip ?_))
    refine Ops.app rfl rfl hrx.len s0 (fun w h q f => hrx.shows w h q f) (bvs_one bs) (by rw [bvs_len]; simp) (by simp) (by omega) fun a' c' => ?_
    (repeat (first | (apply Ops.q; rfl; rfl) | (apply Ops.gyB; rfl; rfl) | (apply Ops.gnB; rfl; decide) | (apply Ops.add; rfl; rfl; (constructor <;> omega)) | (apply Ops.sub; rfl; rfl; (constructor <;> omega)) | (apply Ops.rem; rfl; rfl; omega; omega) | (apply Ops.quo; rfl; rfl; (constructor <;> omega); omega) | (apply Ops.ld; rfl; (first | exact m0 | exact m1 | exact m2 | exact m3 | exact m4 | exact m5 | exact m6); rfl) | (apply Ops.st0; rfl; rfl; rfl; rfl; (first | exact u0 | exact u1 | exact u2 | exact u3 | exact u4 | exact u5); focus (simp; done)) | refine Ops.nil ?_ | refine Segs.nil ?_ | (apply Segs.oneS; rfl) | refine Run.seq ?_ | refine Run.reg ?_ | refine Run.block ?_ | refine Run.blk ?_ | refine Run.skip ?_))
    refine Run.lp (Run.again (ih (i + 1, a', c') (by dsimp only; omega) (by dsimp only; omega)) (.cons rfl (.cons rfl (.cons rfl (.cons ?_ .nil)))) ?_)
    · dsimp only; rw [hfl, List.length_append]; rfl
    · dsimp only; rw [hfl, List.length_append, bvs_app]; exact fun _ h => h
  · have : i = bss.length := by omega
    subst this
    rw [List.take_length] at *
    refine Run.exit rfl ?_
    (repeat (first | (apply Ops.q; rfl; rfl) | (apply Ops.gyB; rfl; rfl) | (apply Ops.gnB; rfl; decide) | (apply Ops.add; rfl; rfl; (constructor <;> omega)) | (apply Ops.sub; rfl; rfl; (constructor <;> omega)) | (apply Ops.rem; rfl; rfl; omega; omega) | (apply Ops.quo; rfl; rfl; (constructor <;> omega); omega) | (apply Ops.ld; rfl; (first | exact m0 | exact m1 | exact m2 | exact m3 | exact m4 | exact m5 | exact m6); rfl) | (apply Ops.st0; rfl; rfl; rfl; rfl; (first | exact u0 | exact u1 | exact u2 | exact u3 | exact u4 | exact u5); focus (simp; done)) | refine Ops.nil ?_ | refine Segs.nil ?_ | (apply Segs.oneS; rfl) | refine Run.seq ?_ | refine Run.reg ?_ | refine Run.block ?_ | refine Run.blk ?_ | refine Run.skip ?_))
    exact Run.ret1 Try.func39 rfl rfl (fun h q => q) ⟨a, c, rfl, rfl⟩

theorem crc_Of (v : Value) (bss : List Bytes) (F : Hp) (hb : RdBB F v bss) (hn : bss.length ≤ 1099511627776) (ht : bss.flatten.length ≤ 1099511627776) :
    Spec Try.prog 33 [v].toArray F [] fun v H => v = .int .u32 (crcOf bss.flatten) ∧ H = [] := by
  refine Spec.enter (n := 39) Try.func33 ok_crc_Of rfl (by simp) ?_
  unfold ec_crc_Of
  simp only [argFr, Nat.reduceAdd]
  obtain ⟨oa, oc, rfl, hb⟩ := hb
  (repeat (first | (apply Ops.q; rfl; rfl) | (apply Ops.gyB; rfl; rfl) | (apply Ops.gnB; rfl; decide) | (apply Ops.add; rfl; rfl; (constructor <;> omega)) | (apply Ops.sub; rfl; rfl; (constructor <;> omega)) | (apply Ops.rem; rfl; rfl; omega; omega) | (apply Ops.quo; rfl; rfl; (constructor <;> omega); omega) | (apply Ops.ld; rfl; (first | exact m0 | exact m1 | exact m2 | exact m3 | exact m4 | exact m5 | exact m6); rfl) | (apply Ops.st0; rfl; rfl; rfl; rfl; (first | exact u0 | exact u1 | exact u2 | exact u3 | exact u4 | exact u5); focus (simp; done)) | refine Ops.nil ?_ | refine Segs.nil ?_ | (apply Segs.oneS; rfl) | refine Run.seq ?_ | refine Run.reg ?_ | refine Run.block ?_ | refine Run.blk ?_ | refine Run.skip ?_))
  refine Run.loopI (ι := Nat) (fun x => bss.length - x) (fun x => x ≤ bss.length)
    (fun x => [(10, .int .i64 x), (9, .int .i64 bss.length), (8, .slice oa bss.length oc), (3, .int .u32 (((bss.take x).flatten.foldl crcByte 4294967295 : Nat) : Int))]) (fun _ => [])
    0 (Nat.zero_le _) (.cons rfl (.cons rfl (.cons rfl (.cons rfl .nil)))) (fun _ h => h) ?_
  rintro i hi ih
  try dsimp only at hi ih ⊢
  unfold ec_crc_Of_L2
  (repeat (first | (apply Ops.q; rfl; rfl) | (apply Ops.gyB; rfl; rfl) | (apply Ops.gnB; rfl; decide) | (apply Ops.add; rfl; rfl; (constructor <;> omega)) | (apply Ops.sub; rfl; rfl; (constructor <;> omega)) | (apply Ops.rem; rfl; rfl; omega; omega) | (apply Ops.quo; rfl; rfl; (constructor <;> omega); omega) | (apply Ops.ld; rfl; (first | exact m0 | exact m1 | exact m2 | exact m3 | exact m4 | exact m5 | exact m6); rfl) | (apply Ops.st0; rfl; rfl; rfl; rfl; (first | exact u0 | exact u1 | exact u2 | exact u3 | exact u4 | exact u5); focus (simp; done)) | refine Ops.nil ?_ | refine Segs.nil ?_ | (apply Segs.oneS; rfl) | refine Run.seq ?_ | refine Run.reg ?_ | refine Run.block ?_ | refine Run.blk ?_ | refine Run.skip ?_))
  refine Run.condD rfl (fun hlt => ?_) (fun hge => ?_)
  · have hlt' : i < bss.length := by omega
    have hel : bss[i]? = some bss[i] := List.getElem?_eq_getElem hlt'
    rcases hb with hb | ⟨ob, o, L, T, fz, rfl, hF, hl, hrd⟩
    · rw [hb] at hlt'; simp at hlt'
    obtain ⟨x, hx, hrx⟩ := hrd i _ hel
    have hpl := part_le hel
    have hfl := flatten_take_succ hel
    generalize bss[i] = bs at *
    obtain ⟨ba, bc, rfl, hbs⟩ := hrx
    have hc0 : (bss.take i).flatten.foldl crcByte 4294967295 < 4294967296 := crcFold_lt _ (by decide)
    have hnext : (bss.take (i + 1)).flatten.foldl crcByte 4294967295 = bs.foldl crcByte ((bss.take i).flatten.foldl crcByte 4294967295) := by rw [hfl, List.foldl_append]
    have ih' := ih (i + 1) (by omega) (by omega)
    rw [hnext] at ih'
    clear ih hnext hfl
    generalize (bss.take i).flatten.foldl crcByte 4294967295 = c0 at *
    (repeat (first | (apply Ops.q; rfl; rfl) | (apply Ops.gyB; rfl; rfl) | (apply Ops.gnB; rfl; decide) | (apply Ops.add; rfl; rfl; (constructor <;> omega)) | (apply Ops.sub; rfl; rfl; (constructor <;> omega)) | (apply Ops.rem; rfl; rfl; omega; omega) | (apply Ops.quo; rfl; rfl; (constructor <;> omega); omega) | (apply Ops.ld; rfl; (first | exact m0 | exact m1 | exact m2 | exact m3 | exact m4 | exact m5 | exact m6); rfl) | (apply Ops.st0; rfl; rfl; rfl; rfl; (first | exact u0 | exact u1 | exact u2 | exact u3 | exact u4 | exact u5); focus (simp; done)) | refine Ops.nil ?_ | refine Segs.nil ?_ | (apply Segs.oneS; rfl) | refine Run.seq ?_ | refine Run.reg ?_ | refine Run.block ?_ | refine Run.blk ?_ | refine Run.skip ?_))
    refine Ops.ixS rfl rfl ⟨by omega, by omega⟩ ?_
    refine Ops.ldF rfl hF (by rw [Int.toNat_natCast, Nat.mul_one]; exact hx) ?_
    (repeat (first | (apply Ops.q; rfl; rfl) | (apply Ops.gyB; rfl; rfl) | (apply Ops.gnB; rfl; decide) | (apply Ops.add; rfl; rfl; (constructor <;> omega)) | (apply Ops.sub; rfl; rfl; (constructor <;> omega)) | (apply Ops.rem; rfl; rfl; omega; omega) | (apply Ops.quo; rfl; rfl; (constructor <;> omega); omega) | (apply Ops.ld; rfl; (first | exact m0 | exact m1 | exact m2 | exact m3 | exact m4 | exact m5 | exact m6); rfl) | (apply Ops.st0; rfl; rfl; rfl; rfl; (first | exact u0 | exact u1 | exact u2 | exact u3 | exact u4 | exact u5); focus (simp; done)) | refine Ops.nil ?_ | refine Segs.nil ?_ | (apply Segs.oneS; rfl) | refine Run.seq ?_ | refine Run.reg ?_ | refine Run.block ?_ | refine Run.blk ?_ | refine Run.skip ?_))
    refine Run.loopI (ι := Nat) (fun x => bs.length - x) (fun x => x ≤ bs.length)
      (fun x => [(16, .int .i64 x), (15, .int .i64 bs.length), (14, .slice ba bs.length bc), (3, .int .u32 (((bs.take x).foldl crcByte c0 : Nat) : Int)), (10, .int .i64 i), (9, .int .i64 bss.length), (8, .slice (some ⟨ob, o, none⟩) bss.length oc)]) (fun _ => [])
      0 (Nat.zero_le _) (.cons rfl (.cons rfl (.cons rfl (.cons rfl (.cons rfl (.cons rfl (.cons rfl .nil))))))) (fun _ h => h) ?_
    rintro j hj ihj
    try dsimp only at hj ihj ⊢
    unfold ec_crc_Of_L1
    (repeat (first | (apply Ops.q; rfl; rfl) | (apply Ops.gyB; rfl; rfl) | (apply Ops.gnB; rfl; decide) | (apply Ops.add; rfl; rfl; (constructor <;> omega)) | (apply Ops.sub; rfl; rfl; (constructor <;> omega)) | (apply Ops.rem; rfl; rfl; omega; omega) | (apply Ops.quo; rfl; rfl; (constructor <;> omega); omega) | (apply Ops.ld; rfl; (first | exact m0 | exact m1 | exact m2 | exact m3 | exact m4 | exact m5 | exact m6); rfl) | (apply Ops.st0; rfl; rfl; rfl; rfl; (first | exact u0 | exact u1 | exact u2 | exact u3 | exact u4 | exact u5); focus (simp; done)) | refine Ops.nil ?_ | refine Segs.nil ?_ | (apply Segs.oneS; rfl) | refine Run.seq ?_ | refine Run.reg ?_ | refine Run.block ?_ | refine Run.blk ?_ | refine Run.skip ?_))
    refine Run.condD rfl (fun hlt2 => ?_) (fun hge2 => ?_)
    · have hlt2' : j < bs.length := by omega
      rcases hbs with hbs | ⟨cb, o2, L2, T2, fz2, rfl, hF2, hl2, ht2⟩
      · rw [hbs] at hlt2'; simp at hlt2'
      have hel2 : bs[j]? = some bs[j] := List.getElem?_eq_getElem hlt2'
      have g := at_of ht2 hlt2' hel2
      have hnext : (bs.take (j + 1)).foldl crcByte c0 = crcByte ((bs.take j).foldl crcByte c0) bs[j] := by
        rw [List.take_succ_eq_append_getElem hlt2', List.foldl_append]; rfl
      generalize bs[j] = u at *
      have hc1 : (bs.take j).foldl crcByte c0 < 4294967296 := crcFold_lt _ hc0
      have hu := u.toNat_lt
      have ihj' := ihj (j + 1) (by omega) (by omega)
      rw [hnext] at ihj'
      clear ihj hnext
      generalize (bs.take j).foldl crcByte c0 = c1 at *
      have hcu : c1 ^^^ u.toNat < 4294967296 := Nat.xor_lt_two_pow (n := 32) hc1 (by omega)
      (repeat (first | (apply Ops.q; rfl; rfl) | (apply Ops.gyB; rfl; rfl) | (apply Ops.gnB; rfl; decide) | (apply Ops.add; rfl; rfl; (constructor <;> omega)) | (apply Ops.sub; rfl; rfl; (constructor <;> omega)) | (apply Ops.rem; rfl; rfl; omega; omega) | (apply Ops.quo; rfl; rfl; (constructor <;> omega); omega) | (apply Ops.ld; rfl; (first | exact m0 | exact m1 | exact m2 | exact m3 | exact m4 | exact m5 | exact m6); rfl) | (apply Ops.st0; rfl; rfl; rfl; rfl; (first | exact u0 | exact u1 | exact u2 | exact u3 | exact u4 | exact u5); focus (simp; done)) | refine Ops.nil ?_ | refine Segs.nil ?_ | (apply Segs.oneS; rfl) | refine Run.seq ?_ | refine Run.reg ?_ | refine Run.block ?_ | refine Run.blk ?_ | refine Run.skip ?_))
      refine Ops.ixS rfl rfl ⟨by omega, by omega⟩ ?_
      refine Ops.ldF rfl hF2 (by rw [Int.toNat_natCast, Nat.mul_one]; exact g) ?_
      (repeat (first | (apply Ops.q; rfl; rfl) | (apply Ops.gyB; rfl; rfl) | (apply Ops.gnB; rfl; decide) | (apply Ops.add; rfl; rfl; (constructor <;> omega)) | (apply Ops.sub; rfl; rfl; (constructor <;> omega)) | (apply Ops.rem; rfl; rfl; omega; omega) | (apply Ops.quo; rfl; rfl; (constructor <;> omega); omega) | (apply Ops.ld; rfl; (first | exact m0 | exact m1 | exact m2 | exact m3 | exact m4 | exact m5 | exact m6); rfl) | (apply Ops.st0; rfl; rfl; rfl; rfl; (first | exact u0 | exact u1 | exact u2 | exact u3 | exact u4 | exact u5); focus (simp; done)) | refine Ops.nil ?_ | refine Segs.nil ?_ | (apply Segs.oneS; rfl) | refine Run.seq ?_ | refine Run.reg ?_ | refine Run.block ?_ | refine Run.blk ?_ | refine Run.skip ?_))
      refine Ops.pE (v' := .int .u32 (u.toNat : Int)) rfl (by rw [wrap_u32 (by omega) (by omega)]) ?_
      refine Ops.xor (k := .u32) rfl rfl rfl rfl rfl (by simp [IntKind.bits]; omega) (by simp [IntKind.bits]; omega) ?_
      (repeat (first | (apply Ops.q; rfl; rfl) | (apply Ops.gyB; rfl; rfl) | (apply Ops.gnB; rfl; decide) | (apply Ops.add; rfl; rfl; (constructor <;> omega)) | (apply Ops.sub; rfl; rfl; (constructor <;> omega)) | (apply Ops.rem; rfl; rfl; omega; omega) | (apply Ops.quo; rfl; rfl; (constructor <;> omega); omega) | (apply Ops.ld; rfl; (first | exact m0 | exact m1 | exact m2 | exact m3 | exact m4 | exact m5 | exact m6); rfl) | (apply Ops.st0; rfl; rfl; rfl; rfl; (first | exact u0 | exact u1 | exact u2 | exact u3 | exact u4 | exact u5); focus (simp; done)) | refine Ops.nil ?_ | refine Segs.nil ?_ | (apply Segs.oneS; rfl) | refine Run.seq ?_ | refine Run.reg ?_ | refine Run.block ?_ | refine Run.blk ?_ | refine Run.skip ?_))
      unfold crcByte at ihj'
      refine Run.loopI (ι := Nat × Nat) (fun x => x.1) (fun x => x.1 ≤ 8 ∧ x.2 < 4294967296 ∧ crcBits x.1 x.2 = crcBits 8 (c1 ^^^ u.toNat))
        (fun x => [(24, .int .i64 ((8 : Int) - x.1)), (3, .int .u32 (x.2 : Int)), (16, .int .i64 j), (15, .int .i64 bs.length), (14, .slice (some ⟨cb, o2, none⟩) bs.length bc), (10, .int .i64 i), (9, .int .i64 bss.length), (8, .slice (some ⟨ob, o, none⟩) bss.length oc)]) (fun _ => [])
        (8, c1 ^^^ u.toNat) ⟨by omega, hcu, rfl⟩ (.cons rfl (.cons rfl (.cons rfl (.cons rfl (.cons rfl (.cons rfl (.cons rfl (.cons rfl .nil)))))))) (fun _ h => h) ?_
      rintro ⟨n, cc⟩ ⟨hn8, hcc, hcr⟩ ihn
      dsimp only at hn8 hcc hcr ihn ⊢
      unfold ec_crc_Of_L0
      (repeat (first | (apply Ops.q; rfl; rfl) | (apply Ops.gyB; rfl; rfl) | (apply Ops.gnB; rfl; decide) | (apply Ops.add; rfl; rfl; (constructor <;> omega)) | (apply Ops.sub; rfl; rfl; (constructor <;> omega)) | (apply Ops.rem; rfl; rfl; omega; omega) | (apply Ops.quo; rfl; rfl; (constructor <;> omega); omega) | (apply Ops.ld; rfl; (first | exact m0 | exact m1 | exact m2 | exact m3 | exact m4 | exact m5 | exact m6); rfl) | (apply Ops.st0; rfl; rfl; rfl; rfl; (first | exact u0 | exact u1 | exact u2 | exact u3 | exact u4 | exact u5); focus (simp; done)) | refine Ops.nil ?_ | refine Segs.nil ?_ | (apply Segs.oneS; rfl) | refine Run.seq ?_ | refine Run.reg ?_ | refine Run.block ?_ | refine Run.blk ?_ | refine Run.skip ?_))
      refine Run.condD rfl (fun hlt3 => ?_) (fun hge3 => ?_)
      · obtain ⟨n, rfl⟩ : ∃ m, n = m + 1 := ⟨n - 1, by omega⟩
        simp only [crcBits] at hcr
        (repeat (first | (apply Ops.q; rfl; rfl) | (apply Ops.gyB; rfl; rfl) | (apply Ops.gnB; rfl; decide) | (apply Ops.add; rfl; rfl; (constructor <;> omega)) | (apply Ops.sub; rfl; rfl; (constructor <;> omega)) | (apply Ops.rem; rfl; rfl; omega; omega) | (apply Ops.quo; rfl; rfl; (constructor <;> omega); omega) | (apply Ops.ld; rfl; (first | exact m0 | exact m1 | exact m2 | exact m3 | exact m4 | exact m5 | exact m6); rfl) | (apply Ops.st0; rfl; rfl; rfl; rfl; (first | exact u0 | exact u1 | exact u2 | exact u3 | exact u4 | exact u5); focus (simp; done)) | refine Ops.nil ?_ | refine Segs.nil ?_ | (apply Segs.oneS; rfl) | refine Run.seq ?_ | refine Run.reg ?_ | refine Run.block ?_ | refine Run.blk ?_ | refine Run.skip ?_))
        refine Ops.and (k := .u32) (b := 1) rfl rfl rfl rfl rfl (by simp [IntKind.bits]; omega) (by simp [IntKind.bits]) ?_
        rw [Nat.and_one_is_mod]
        (repeat (first | (apply Ops.q; rfl; rfl) | (apply Ops.gyB; rfl; rfl) | (apply Ops.gnB; rfl; decide) | (apply Ops.add; rfl; rfl; (constructor <;> omega)) | (apply Ops.sub; rfl; rfl; (constructor <;> omega)) | (apply Ops.rem; rfl; rfl; omega; omega) | (apply Ops.quo; rfl; rfl; (constructor <;> omega); omega) | (apply Ops.ld; rfl; (first | exact m0 | exact m1 | exact m2 | exact m3 | exact m4 | exact m5 | exact m6); rfl) | (apply Ops.st0; rfl; rfl; rfl; rfl; (first | exact u0 | exact u1 | exact u2 | exact u3 | exact u4 | exact u5); focus (simp; done)) | refine Ops.nil ?_ | refine Segs.nil ?_ | (apply Segs.oneS; rfl) | refine Run.seq ?_ | refine Run.reg ?_ | refine Run.block ?_ | refine Run.blk ?_ | refine Run.skip ?_))
        refine Run.condD rfl (fun hbit => ?_) (fun hbit => ?_)
        · have hb1 : crcBit cc = (cc / 2) ^^^ 3988292384 := by unfold crcBit; rw [if_pos (by omega)]
          rw [hb1] at hcr
          (repeat (first | (apply Ops.q; rfl; rfl) | (apply Ops.gyB; rfl; rfl) | (apply Ops.gnB; rfl; decide) | (apply Ops.add; rfl; rfl; (constructor <;> omega)) | (apply Ops.sub; rfl; rfl; (constructor <;> omega)) | (apply Ops.rem; rfl; rfl; omega; omega) | (apply Ops.quo; rfl; rfl; (constructor <;> omega); omega) | (apply Ops.ld; rfl; (first | exact m0 | exact m1 | exact m2 | exact m3 | exact m4 | exact m5 | exact m6); rfl) | (apply Ops.st0; rfl; rfl; rfl; rfl; (first | exact u0 | exact u1 | exact u2 | exact u3 | exact u4 | exact u5); focus (simp; done)) | refine Ops.nil ?_ | refine Segs.nil ?_ | (apply Segs.oneS; rfl) | refine Run.seq ?_ | refine Run.reg ?_ | refine Run.block ?_ | refine Run.blk ?_ | refine Run.skip ?_))
          refine Ops.shr (j := 1) rfl rfl rfl (by decide) ?_
          rw [show cc >>> 1 = cc / 2 by rw [Nat.shiftRight_succ, Nat.shiftRight_zero]]
          refine Ops.xor (k := .u32) (b := 3988292384) rfl rfl rfl rfl rfl (by simp [IntKind.bits]; omega) (by simp [IntKind.bits]) ?_
          (repeat (first | (apply Ops.q; rfl; rfl) | (apply Ops.gyB; rfl; rfl) | (apply Ops.gnB; rfl; decide) | (apply Ops.add; rfl; rfl; (constructor <;> omega)) | (apply Ops.sub; rfl; rfl; (constructor <;> omega)) | (apply Ops.rem; rfl; rfl; omega; omega) | (apply Ops.quo; rfl; rfl; (constructor <;> omega); omega) | (apply Ops.ld; rfl; (first | exact m0 | exact m1 | exact m2 | exact m3 | exact m4 | exact m5 | exact m6); rfl) | (apply Ops.st0; rfl; rfl; rfl; rfl; (first | exact u0 | exact u1 | exact u2 | exact u3 | exact u4 | exact u5); focus (simp; done)) | refine Ops.nil ?_ | refine Segs.nil ?_ | (apply Segs.oneS; rfl) | refine Run.seq ?_ | refine Run.reg ?_ | refine Run.block ?_ | refine Run.blk ?_ | refine Run.skip ?_))
          refine Run.lp (Run.again (ihn (n, (cc / 2) ^^^ 3988292384) (by dsimp only; omega) ⟨by dsimp only; omega, Nat.xor_lt_two_pow (n := 32) (by omega) (by decide), hcr⟩) (.cons ?_ (.cons rfl (.cons rfl (.cons rfl (.cons rfl (.cons rfl (.cons rfl (.cons rfl .nil)))))))) (fun _ h => h))
          rw [show (8 : Int) - ((n : Nat) : Int) = 8 - ((n + 1 : Nat) : Int) + 1 by omega]; rfl
        · have hb1 : crcBit cc = cc / 2 := by unfold crcBit; rw [if_neg (by omega)]
          rw [hb1] at hcr
          (repeat (first | (apply Ops.q; rfl; rfl) | (apply Ops.gyB; rfl; rfl) | (apply Ops.gnB; rfl; decide) | (apply Ops.add; rfl; rfl; (constructor <;> omega)) | (apply Ops.sub; rfl; rfl; (constructor <;> omega)) | (apply Ops.rem; rfl; rfl; omega; omega) | (apply Ops.quo; rfl; rfl; (constructor <;> omega); omega) | (apply Ops.ld; rfl; (first | exact m0 | exact m1 | exact m2 | exact m3 | exact m4 | exact m5 | exact m6); rfl) | (apply Ops.st0; rfl; rfl; rfl; rfl; (first | exact u0 | exact u1 | exact u2 | exact u3 | exact u4 | exact u5); focus (simp; done)) | refine Ops.nil ?_ | refine Segs.nil ?_ | (apply Segs.oneS; rfl) | refine Run.seq ?_ | refine Run.reg ?_ | refine Run.block ?_ | refine Run.blk ?_ | refine Run.skip ?_))
          refine Ops.shr (j := 1) rfl rfl rfl (by decide) ?_
          rw [show cc >>> 1 = cc / 2 by rw [Nat.shiftRight_succ, Nat.shiftRight_zero]]
          (repeat (first | (apply Ops.q; rfl; rfl) | (apply Ops.gyB; rfl; rfl) | (apply Ops.gnB; rfl; decide) | (apply Ops.add; rfl; rfl; (constructor <;> omega)) | (apply Ops.sub; rfl; rfl; (constructor <;> omega)) | (apply Ops.rem; rfl; rfl; omega; omega) | (apply Ops.quo; rfl; rfl; (constructor <;> omega); omega) | (apply Ops.ld; rfl; (first | exact m0 | exact m1 | exact m2 | exact m3 | exact m4 | exact m5 | exact m6); rfl) | (apply Ops.st0; rfl; rfl; rfl; rfl; (first | exact u0 | exact u1 | exact u2 | exact u3 | exact u4 | exact u5); focus (simp; done)) | refine Ops.nil ?_ | refine Segs.nil ?_ | (apply Segs.oneS; rfl) | refine Run.seq ?_ | refine Run.reg ?_ | refine Run.block ?_ | refine Run.blk ?_ | refine Run.skip ?_))
          refine Run.lp (Run.again (ihn (n, cc / 2) (by dsimp only; omega) ⟨by dsimp only; omega, by dsimp only; omega, hcr⟩) (.cons ?_ (.cons rfl (.cons rfl (.cons rfl (.cons rfl (.cons rfl (.cons rfl (.cons rfl .nil)))))))) (fun _ h => h))
          rw [show (8 : Int) - ((n : Nat) : Int) = 8 - ((n + 1 : Nat) : Int) + 1 by omega]; rfl
      · have : n = 0 := by omega
        subst this
        simp only [crcBits] at hcr
        subst hcr
        refine Run.exit rfl ?_
        (repeat (first | (apply Ops.q; rfl; rfl) | (apply Ops.gyB; rfl; rfl) | (apply Ops.gnB; rfl; decide) | (apply Ops.add; rfl; rfl; (constructor <;> omega)) | (apply Ops.sub; rfl; rfl; (constructor <;> omega)) | (apply Ops.rem; rfl; rfl; omega; omega) | (apply Ops.quo; rfl; rfl; (constructor <;> omega); omega) | (apply Ops.ld; rfl; (first | exact m0 | exact m1 | exact m2 | exact m3 | exact m4 | exact m5 | exact m6); rfl) | (apply Ops.st0; rfl; rfl; rfl; rfl; (first | exact u0 | exact u1 | exact u2 | exact u3 | exact u4 | exact u5); focus (simp; done)) | refine Ops.nil ?_ | refine Segs.nil ?_ | (apply Segs.oneS; rfl) | refine Run.seq ?_ | refine Run.reg ?_ | refine Run.block ?_ | refine Run.blk ?_ | refine Run.skip ?_))
        exact Run.lp (Run.again ihj' (.cons rfl (.cons rfl (.cons rfl (.cons rfl (.cons rfl (.cons rfl (.cons rfl .nil))))))) (fun _ h => h))
    · have : j = bs.length := by omega
      subst this
      rw [List.take_length]
      refine Run.exit rfl ?_
      (repeat (first | (apply Ops.q; rfl; rfl) | (apply Ops.gyB; rfl; rfl) | (apply Ops.gnB; rfl; decide) | (apply Ops.add; rfl; rfl; (constructor <;> omega)) | (apply Ops.sub; rfl; rfl; (constructor <;> omega)) | (apply Ops.rem; rfl; rfl; omega; omega) | (apply Ops.quo; rfl; rfl; (constructor <;> omega); omega) | (apply Ops.ld; rfl; (first | exact m0 | exact m1 | exact m2 | exact m3 | exact m4 | exact m5 | exact m6); rfl) | (apply Ops.st0; rfl; rfl; rfl; rfl; (first | exact u0 | exact u1 | exact u2 | exact u3 | exact u4 | exact u5); focus (simp; done)) | refine Ops.nil ?_ | refine Segs.nil ?_ | (apply Segs.oneS; rfl) | refine Run.seq ?_ | refine Run.reg ?_ | refine Run.block ?_ | refine Run.blk ?_ | refine Run.skip ?_))
      exact Run.lp (Run.again ih' (.cons rfl (.cons rfl (.cons rfl (.cons rfl .nil)))) (fun _ h => h))
  · have : i = bss.length := by omega
    subst this
    rw [List.take_length]
    refine Run.exit rfl ?_
    have hc := crcFold_lt bss.flatten (c := 4294967295) (by decide)
    (repeat (first | (apply Ops.q; rfl; rfl) | (apply Ops.gyB; rfl; rfl) | (apply Ops.gnB; rfl; decide) | (apply Ops.add; rfl; rfl; (constructor <;> omega)) | (apply Ops.sub; rfl; rfl; (constructor <;> omega)) | (apply Ops.rem; rfl; rfl; omega; omega) | (apply Ops.quo; rfl; rfl; (constructor <;> omega); omega) | (apply Ops.ld; rfl; (first | exact m0 | exact m1 | exact m2 | exact m3 | exact m4 | exact m5 | exact m6); rfl) | (apply Ops.st0; rfl; rfl; rfl; rfl; (first | exact u0 | exact u1 | exact u2 | exact u3 | exact u4 | exact u5); focus (simp; done)) | refine Ops.nil ?_ | refine Segs.nil ?_ | (apply Segs.oneS; rfl) | refine Run.seq ?_ | refine Run.reg ?_ | refine Run.block ?_ | refine Run.blk ?_ | refine Run.skip ?_))
    refine Run.ret1 Try.func33 rfl rfl (fun h q => q) ⟨?_, rfl⟩
    unfold crcOf
    generalize bss.flatten.foldl crcByte 4294967295 = c at *
    have e1 : (BitVec.ofInt IntKind.u32.bits 4294967295).toNat = 4294967295 := bv_nat (w := 32) (n := 4294967295) (by decide)
    have e2 : (BitVec.ofInt IntKind.u32.bits (c : Int)).toNat = c := bv_nat (by simp [IntKind.bits]; omega)
    have e3 : IntKind.u32.max = 4294967295 := rfl
    congr 1
    simp only [IntKind.signed, Bool.false_eq_true, if_false, e3]
    rw [BitVec.toNat_xor, e1, e2, wrap_nat rfl (Nat.xor_lt_two_pow (by decide) (by simp [IntKind.bits]; omega)), Nat.xor_comm]
end Eng
end Go.Proofs.Ytbhlolmglieehaa
