/- Numbers as bytes, and sums, plainly; what it is to read bytes in memory. -/
import Derived.Test.YtbhlolmglieehaaModDisk
set_option linter.unusedSimpArgs false
set_option linter.unusedVariables false
namespace Go.Proofs.Ytbhlolmglieehaa

/-- a number's four bytes, the lowest first -/
def le4 (n : Nat) : Bytes := [UInt8.ofNat n, UInt8.ofNat (n / 256), UInt8.ofNat (n / 65536), UInt8.ofNat (n / 16777216)]

def val4 (a b c d : UInt8) : Nat := a.toNat + b.toNat * 256 + c.toNat * 65536 + d.toNat * 16777216

theorem val4_lt (a b c d : UInt8) : val4 a b c d < 4294967296 := by
  have := a.toNat_lt; have := b.toNat_lt; have := c.toNat_lt; have := d.toNat_lt
  unfold val4; omega

theorem val4_le4 (n : Nat) (h : n < 4294967296) : val4 (UInt8.ofNat n) (UInt8.ofNat (n / 256)) (UInt8.ofNat (n / 65536)) (UInt8.ofNat (n / 16777216)) = n := by
  unfold val4
  simp only [UInt8.toNat_ofNat']
  omega

theorem le4_len (n : Nat) : (le4 n).length = 4 := rfl

/-- a reader: what is left, and whether something was wrong -/
structure Rd where
  b : Bytes
  bad : Bool

def Rd.num (most : Int) : Rd → Int × Rd
  | ⟨a :: b :: c :: d :: r, bad⟩ => if most < (val4 a b c d : Int) then (0, ⟨[], true⟩) else ((val4 a b c d : Int), ⟨r, bad⟩)
  | _ => (0, ⟨[], true⟩)

def crcBit (c : Nat) : Nat := if c % 2 = 1 then (c / 2) ^^^ 3988292384 else c / 2
def crcBits : Nat → Nat → Nat
  | 0, c => c
  | n + 1, c => crcBits n (crcBit c)
def crcByte (c : Nat) (b : UInt8) : Nat := crcBits 8 (c ^^^ b.toNat)
def crcOf (bs : Bytes) : Nat := (bs.foldl crcByte 4294967295) ^^^ 4294967295

theorem crcBit_lt {c : Nat} (h : c < 4294967296) : crcBit c < 4294967296 := by
  unfold crcBit
  split
  · exact Nat.xor_lt_two_pow (n := 32) (by omega) (by decide)
  · omega
theorem crcBits_lt : ∀ (n : Nat) {c : Nat}, c < 4294967296 → crcBits n c < 4294967296
  | 0, _, h => h
  | n + 1, _, h => crcBits_lt n (crcBit_lt h)
theorem crcByte_lt {c : Nat} (h : c < 4294967296) (b : UInt8) : crcByte c b < 4294967296 :=
  crcBits_lt 8 (Nat.xor_lt_two_pow (n := 32) h (by have := b.toNat_lt; omega))
theorem crcFold_lt : ∀ (bs : Bytes) {c : Nat}, c < 4294967296 → bs.foldl crcByte c < 4294967296
  | [], _, h => h
  | b :: bs, _, h => crcFold_lt bs (crcByte_lt h b)
theorem crcOf_lt (bs : Bytes) : crcOf bs < 4294967296 := Nat.xor_lt_two_pow (n := 32) (crcFold_lt bs (by decide)) (by decide)

namespace Eng

/-- bytes that can be read in the frame -/
def RdB (F : Hp) (v : Value) (bs : Bytes) : Prop := ∃ a c, v = .slice a bs.length c ∧
  (bs = [] ∨ ∃ b o L T fz, a = some ⟨b, o, none⟩ ∧ F b = some (.cells (List.toArray L) T fz) ∧ o + bs.length ≤ L.length ∧ (L.drop o).take bs.length = bvs bs)

theorem RdB.ext {F F' : Hp} (e : Ext F F') {v : Value} {bs : Bytes} (h : RdB F v bs) : RdB F' v bs := by
  obtain ⟨a, c, hv, h⟩ := h
  refine ⟨a, c, hv, h.imp id ?_⟩
  rintro ⟨b, o, L, T, fz, ha, hF, r⟩
  exact ⟨b, o, L, T, fz, ha, e _ _ hF, r⟩

theorem RdB.shows {F : Hp} {v : Value} {bs : Bytes} (h : RdB F v bs) {H : List HA} : ∀ w h, seps H h → Fits F h w → shows w 1 bs.length v (bvs bs) := by
  intro w hh _ f
  obtain ⟨a, c, rfl, h | ⟨b, o, L, T, fz, rfl, hF, hl, ht⟩⟩ := h
  · subst h
    cases a with
    | none => rfl
    | some a => exact .inl ⟨rfl, rfl⟩
  · exact .inr ⟨rfl, L, T, fz, f.frm _ _ hF, by simpa using hl, by rw [Nat.mul_one]; exact ht.symm⟩

theorem RdB.len {F : Hp} {v : Value} {bs : Bytes} (h : RdB F v bs) : lenV v = some bs.length := by
  obtain ⟨a, c, rfl, _⟩ := h; rfl

theorem RdB.nil {F : Hp} : RdB F (.slice none 0 0) [] := ⟨none, 0, rfl, .inl rfl⟩

/-- rows of bytes that can be read in the frame -/
def RdBB (F : Hp) (v : Value) (bss : List Bytes) : Prop := ∃ a c, v = .slice a bss.length c ∧
  (bss = [] ∨ ∃ b o L T fz, a = some ⟨b, o, none⟩ ∧ F b = some (.cells (List.toArray L) T fz) ∧ o + bss.length ≤ L.length ∧ ∀ i bs, bss[i]? = some bs → ∃ x, L[o + i]? = some x ∧ RdB F x bs)

theorem RdBB.ext {F F' : Hp} (e : Ext F F') {v : Value} {bss : List Bytes} (h : RdBB F v bss) : RdBB F' v bss := by
  obtain ⟨a, c, hv, h⟩ := h
  refine ⟨a, c, hv, h.imp id ?_⟩
  rintro ⟨b, o, L, T, fz, ha, hF, hl, r⟩
  refine ⟨b, o, L, T, fz, ha, e _ _ hF, hl, fun i bs hi => ?_⟩
  obtain ⟨x, h1, h2⟩ := r i bs hi
  exact ⟨x, h1, h2.ext e⟩

/-- what a slice that owns its array lends -/
theorem OwnI.rdB {a : Option Addr} {n c : Nat} {T : TypeId} {bs : Bytes} {G : List HA} (h : OwnI a n c 1 T (bvs bs) G) {F : Hp} (k : Known G F) : RdB F (.slice a n c) bs := by
  obtain ⟨hl, h⟩ := h
  have hn : n = bs.length := by rw [bvs_len] at hl; omega
  subst hn
  refine ⟨a, c, rfl, ?_⟩
  rcases h with ⟨_, h, _, _⟩ | ⟨b, sp, rfl, hc, hcap, rfl⟩
  · exact .inl (List.length_eq_zero_iff.1 h)
  · refine .inr ⟨b, 0, bvs bs ++ sp, T, (0, 0), rfl, k _ _ m0, by simp [bvs_len], by simp [← bvs_len bs]⟩

/-- a block of bytes that is known -/
theorem rdB_of {F : Hp} {b o : Nat} {L : List Value} {T : TypeId} {fz : Nat × Nat} {bs : Bytes} {c : Nat} (hF : F b = some (.cells L.toArray T fz)) (hl : o + bs.length ≤ L.length) (ht : (L.drop o).take bs.length = bvs bs) :
    RdB F (.slice (some ⟨b, o, none⟩) bs.length c) bs := ⟨_, c, rfl, .inr ⟨b, o, L, T, fz, rfl, hF, hl, ht⟩⟩

/-- a reader in memory -/
def RdI (r : Nat) (R : Rd) (G : List HA) : Prop := ∃ a c, (R.b = [] ∧ G = [.pt r (.cells [.slice a R.b.length c, .bool R.bad].toArray 82 (0, 0))]) ∨
  ∃ b o L T fz, a = some ⟨b, o, none⟩ ∧ o + R.b.length ≤ L.length ∧ R.b.length ≤ c ∧ (L.drop o).take R.b.length = bvs R.b ∧
    G = [.pt r (.cells [.slice a R.b.length c, .bool R.bad].toArray 82 (0, 0)), .pt b (.cells (List.toArray L) T fz)]
def RdP (r : Nat) (R : Rd) : HA := grp (RdI r R)

end Eng
end Go.Proofs.Ytbhlolmglieehaa
