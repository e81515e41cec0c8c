/- Records that lie on a disk are found. -/
import Derived.Test.YtbhlolmglieehaaPlain2
set_option linter.unusedSimpArgs false
set_option linter.unusedVariables false
namespace Go.Proofs.Ytbhlolmglieehaa

theorem rd_le4 {n : Nat} (h : n < 4294967296) {most : Int} (hm : (n : Int) ≤ most) (r : Bytes) (bad : Bool) : Rd.num most ⟨le4 n ++ r, bad⟩ = ((n : Int), ⟨r, bad⟩) := by
  simp only [le4, List.cons_append, List.nil_append, Rd.num, val4_le4 n h]
  rw [if_neg (by omega)]

/-- the epoch that a record's first sector names -/
def ep (s : Bytes) : Nat := match (s.drop 9).take 4 with
  | [a, b, c, d] => val4 a b c d
  | _ => 0

theorem four {s : Bytes} {n : Nat} (h : n + 4 ≤ s.length) : ∃ a b c d, (s.drop n).take 4 = [a, b, c, d] ∧ s.drop n = a :: b :: c :: d :: s.drop (n + 4) := by
  have h1 : n < s.length := by omega
  refine ⟨s[n], s[n + 1], s[n + 2], s[n + 3], ?_, ?_⟩
  · rw [List.drop_eq_getElem_cons h1, List.drop_eq_getElem_cons (show n + 1 < s.length by omega), List.drop_eq_getElem_cons (show n + 1 + 1 < s.length by omega), List.drop_eq_getElem_cons (show n + 1 + 1 + 1 < s.length by omega)]; rfl
  · rw [List.drop_eq_getElem_cons h1, List.drop_eq_getElem_cons (show n + 1 < s.length by omega), List.drop_eq_getElem_cons (show n + 1 + 1 < s.length by omega), List.drop_eq_getElem_cons (show n + 1 + 1 + 1 < s.length by omega)]

/-- reads that went well -/
theorem num_good {most : Int} {R : Rd} (h : (R.num most).2.bad = false) : ∃ a b c d r, R.b = a :: b :: c :: d :: r ∧ R.bad = false ∧ R.num most = ((val4 a b c d : Int), ⟨r, false⟩) := by
  obtain ⟨bs, bad⟩ := R
  unfold Rd.num at h ⊢
  split at h
  · rename_i x a b c d r bad' heq
    cases heq
    split at h
    · cases h
    · rename_i hm
      dsimp only at h
      subst h
      refine ⟨a, b, c, d, r, rfl, rfl, ?_⟩
      rw [if_neg hm]
  · cases h

/-- a sector that begins no record of an epoch -/
def Stale (e : Nat) (s : Bytes) : Prop := ¬ (s[0]? = some 2 ∧ ep s = e)

theorem next_stop {L : LogS} {D : DiskS} (h : L.pos < D.hf → Stale L.epoch (D.at_ (L.base D L.pos))) : L.next D = none := by
  unfold LogS.next
  by_cases h1 : D.hf ≤ L.pos
  · rw [if_pos h1]
  have hs := h (by omega)
  rw [if_neg h1]
  dsimp only
  generalize D.at_ (L.base D L.pos) = s at *
  by_cases h2 : s[0]? = some 2
  · rw [if_pos h2]
    by_cases h3 : ((((((headOf s).num 4096).2.num 2147483648).2.num 2147483648).2.num 4294967295).2).bad = true
    · rw [if_pos h3]
    · have h3' : ((((((headOf s).num 4096).2.num 2147483648).2.num 2147483648).2.num 4294967295).2).bad = false := by simpa using h3
      obtain ⟨_, _, _, _, _, _, g3, _⟩ := num_good h3'
      obtain ⟨a3, b3, c3, d3, r3, e3, g2, v3⟩ := num_good g3
      obtain ⟨a2, b2, c2, d2, r2, e2, g1, v2⟩ := num_good g2
      obtain ⟨a1, b1, c1, d1, r1, e1, _, v1⟩ := num_good g1
      rw [v1] at e2
      rw [v2] at e3
      dsimp only at e2 e3
      have hep : ep s = val4 a3 b3 c3 d3 := by
        have : (s.drop 1).take 16 = a1 :: b1 :: c1 :: d1 :: a2 :: b2 :: c2 :: d2 :: a3 :: b3 :: c3 :: d3 :: r3 := by rw [← e3, ← e2, ← e1]; rfl
        have h8 := congrArg (fun l => (l.drop 8).take 4) this
        simp only [List.drop_take, List.drop_drop, List.take_take] at h8
        unfold ep
        rw [show (s.drop 9).take 4 = [a3, b3, c3, d3] by simpa using h8]
      have hx3 : ((((headOf s).num 4096).2.num 2147483648).2.num 2147483648).1 = (ep s : Int) := by rw [v3, hep]
      rw [if_neg h3, hx3, if_neg (show ¬ ((ep s : Int) = (L.epoch : Int)) from fun e => hs ⟨h2, by omega⟩)]
      split <;> rfl
  · rw [if_neg h2]

/-- a record's bytes with what fills its last sector -/
def padded (all : Bytes) (k : Nat) : Bytes := all ++ List.replicate (k * 63 - all.length) 0

theorem sect_tail {all : Bytes} {k i : Nat} (hi : i < k) (hl : all.length ≤ k * 63) : (sectOf all i).drop 1 = ((padded all k).drop (i * 63)).take 63 := by
  unfold sectOf padded
  simp only [List.drop_succ_cons, List.drop_zero]
  have hk : i * 63 + 63 ≤ k * 63 := by have := Nat.mul_le_mul_right 63 (show i + 1 ≤ k by omega); omega
  rw [List.drop_append, List.take_append]
  congr 1
  rw [List.drop_replicate, List.take_replicate]
  congr 1
  simp only [List.length_take, List.length_drop]
  omega

theorem gather_ok {D : DiskS} {base : Nat} {all : Bytes} {k : Nat} (hl : all.length ≤ k * 63) (hs : ∀ j, j < k → D.at_ (base + j) = sectOf all j) : ∀ (n i : Nat), 1 ≤ i → i + n = k →
    gather D base n i (((padded all k).take (i * 63)).drop 16) = some ((padded all k).drop 16) := by
  have hp : (padded all k).length = k * 63 := by unfold padded; rw [List.length_append, List.length_replicate]; omega
  intro n
  induction n with
  | zero =>
    intro i _ hi
    have : i = k := by omega
    subst this
    simp only [gather]
    rw [List.take_of_length_le (by omega)]
  | succ n ih =>
    intro i h1 hi
    simp only [gather]
    rw [hs i (by omega)]
    have h3 : (sectOf all i)[0]? = some 3 := by unfold sectOf; rw [if_neg (by omega)]; rfl
    rw [if_pos h3, sect_tail (by omega) hl]
    have := ih (i + 1) (by omega) (by omega)
    rw [← this]
    congr 1
    rw [Nat.add_mul, Nat.one_mul, List.take_add, List.drop_append_of_le_length]
    rw [List.length_take, hp]
    have : (i + 1) * 63 ≤ k * 63 := Nat.mul_le_mul_right 63 (by omega)
    omega

theorem next_hit {L : LogS} {D : DiskS} {b : Bytes} (hb : b.length ≤ 4096) (hp : L.pos + sectorsOf b.length ≤ D.hf) (hl : L.list.length ≤ 2147483648) (he : L.epoch ≤ 2147483648)
    (hs : ∀ j, j < sectorsOf b.length → D.at_ (L.base D L.pos + j) = sectOf (hdrOf L.list.length L.epoch b) j) : L.next D = some (b, sectorsOf b.length) := by
  have hk := sectors_le hb
  have hal := hdrOf_len L.list.length L.epoch b
  have hs0 := hs 0 (by omega)
  rw [Nat.add_zero] at hs0
  unfold LogS.next
  rw [if_neg (by omega)]
  dsimp only
  have hcr := crcOf_lt ((le4 L.list.length ++ le4 L.epoch) ++ b)
  have hhead : headOf (D.at_ (L.base D L.pos)) = ⟨le4 b.length ++ (le4 L.list.length ++ (le4 L.epoch ++ (le4 (crcOf ((le4 L.list.length ++ le4 L.epoch) ++ b)) ++ []))), false⟩ := by
    rw [hs0]
    unfold headOf sectOf
    simp only [Nat.zero_mul, List.drop_zero, List.drop_succ_cons]
    rw [Rd.mk.injEq]
    refine ⟨?_, rfl⟩
    have h16 : 16 ≤ ((hdrOf L.list.length L.epoch b).take 63).length := by rw [List.length_take, hal]; omega
    rw [List.take_append_of_le_length h16, List.take_take]
    unfold hdrOf
    have : ∀ x y z w r : Bytes, x.length = 4 → y.length = 4 → z.length = 4 → w.length = 4 → List.take (min 16 63) (x ++ (y ++ (z ++ (w ++ r)))) = x ++ (y ++ (z ++ (w ++ []))) := by
      intro x y z w r h1 h2 h3 h4
      rw [show min 16 63 = 16 from rfl, List.take_append, List.take_append, List.take_append, List.take_append, h1, h2, h3, h4]
      rw [List.take_of_length_le (by omega), List.take_of_length_le (by omega), List.take_of_length_le (by omega), List.take_of_length_le (by omega)]
      simp
    exact this _ _ _ _ _ (le4_len _) (le4_len _) (le4_len _) (le4_len _)
  rw [hhead, rd_le4 (by omega) (by omega)]
  dsimp only
  rw [rd_le4 (by omega) (by omega)]
  dsimp only
  rw [rd_le4 (by omega) (by omega)]
  dsimp only
  rw [rd_le4 hcr (by omega)]
  dsimp only
  simp only [Int.toNat_natCast]
  have hm : (D.at_ (L.base D L.pos))[0]? = some 2 := by rw [hs0]; unfold sectOf; rw [if_pos rfl]; rfl
  rw [if_pos hm, if_neg (by decide), if_pos trivial, if_pos trivial, if_neg (by omega)]
  have hle : (hdrOf L.list.length L.epoch b).length ≤ sectorsOf b.length * 63 := by rw [hal]; unfold sectorsOf; omega
  have hd17 : (D.at_ (L.base D L.pos)).drop 17 = ((padded (hdrOf L.list.length L.epoch b) (sectorsOf b.length)).take (1 * 63)).drop 16 := by
    have := sect_tail (i := 0) (k := sectorsOf b.length) (by omega) hle
    rw [Nat.zero_mul, List.drop_zero] at this
    rw [hs0, Nat.one_mul, ← this, List.drop_drop]
  rw [hd17, gather_ok hle hs (sectorsOf b.length - 1) 1 (Nat.le_refl _) (by omega)]
  dsimp only
  have hb2 : ((padded (hdrOf L.list.length L.epoch b) (sectorsOf b.length)).drop 16).take b.length = b := by
    unfold padded hdrOf
    have : ∀ x y z w r q : Bytes, x.length = 4 → y.length = 4 → z.length = 4 → w.length = 4 → (((x ++ (y ++ (z ++ (w ++ r)))) ++ q).drop 16).take r.length = r := by
      intro x y z w r q h1 h2 h3 h4
      rw [show (x ++ (y ++ (z ++ (w ++ r)))) ++ q = (x ++ y ++ z ++ w) ++ (r ++ q) by simp, List.drop_append, List.drop_eq_nil_of_le (by simp; omega)]
      rw [show 16 - (x ++ y ++ z ++ w).length = 0 by simp; omega]
      simp
    exact this _ _ _ _ _ _ (le4_len _) (le4_len _) (le4_len _) (le4_len _)
  rw [hb2, if_pos rfl]
end Go.Proofs.Ytbhlolmglieehaa
