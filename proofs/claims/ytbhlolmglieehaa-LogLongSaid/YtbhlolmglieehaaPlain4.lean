/- A disk that bears a log, and what is opened. -/
import Derived.Test.YtbhlolmglieehaaPlain3
set_option linter.unusedSimpArgs false
set_option linter.unusedVariables false
namespace Go.Proofs.Ytbhlolmglieehaa

/-- records lie one behind the other -/
def Lies (f : Nat → Bytes) (B e : Nat) : Nat → Nat → List Bytes → Prop
  | _, _, [] => True
  | p, q, b :: r => (∀ j, j < sectorsOf b.length → f (B + p + j) = sectOf (hdrOf q e b) j) ∧ b.length ≤ 4096 ∧ Lies f B e (p + sectorsOf b.length) (q + 1) r

structure Rep (f : Nat → Bytes) (n e h : Nat) (list : List Bytes) (T : Nat) : Prop where
  size : 6 ≤ n ∧ n ≤ 4096
  half : h ≤ 1
  epoch : 1 ≤ e ∧ e ≤ T
  top : T ≤ 2147483648
  lies : Lies f (2 + h * ((n - 2) / 2)) e 0 0 list
  room : total list ≤ (n - 2) / 2
  stale : ∀ k, total list ≤ k → k < (n - 2) / 2 → Stale e (f (2 + h * ((n - 2) / 2) + k))
  head : f h = headSect e
  other : (goodOf (f (1 - h))).2 = true → (goodOf (f (1 - h))).1 < e
  tops : ∀ a, 2 ≤ a → a < n → (f a)[0]? = some 2 → ep (f a) ≤ T
  len : ∀ a, a < n → (f a).length = 64

theorem len_le_total : ∀ (l : List Bytes), l.length ≤ total l := by
  intro l
  induction l with
  | nil => exact Nat.le_refl _
  | cons b l ih =>
    simp only [List.length_cons, total]
    have : 1 ≤ sectorsOf b.length := by unfold sectorsOf; omega
    omega

theorem scan_lies (D : DiskS) : ∀ (rs : List Bytes) (L : LogS) (fuel : Nat), Lies D.at_ (2 + L.half * D.hf) L.epoch L.pos L.list.length rs → L.pos + total rs ≤ D.hf → L.list.length + rs.length ≤ 2147483648 → L.epoch ≤ 2147483648 →
    (L.pos + total rs < D.hf → Stale L.epoch (D.at_ (2 + L.half * D.hf + (L.pos + total rs)))) → rs.length < fuel → scanN fuel L D = { L with pos := L.pos + total rs, list := L.list ++ rs } := by
  intro rs
  induction rs with
  | nil =>
    intro L fuel _ hp _ _ hst hf
    obtain ⟨n, rfl⟩ : ∃ n, fuel = n + 1 := ⟨fuel - 1, by simp at hf; omega⟩
    have : L.next D = none := next_stop (fun h => by simpa [LogS.base, total] using hst (by simpa [total] using h))
    simp only [scanN, this, total, Nat.add_zero, List.append_nil]
  | cons b rs ih =>
    intro L fuel hl hp hq he hst hf
    obtain ⟨n, rfl⟩ : ∃ n, fuel = n + 1 := ⟨fuel - 1, by simp at hf; omega⟩
    obtain ⟨h1, h2, h3⟩ := hl
    simp only [total, List.length_cons] at hp hst hf hq
    have hn := next_hit (L := L) (D := D) h2 (by omega) (by omega) he (fun j hj => h1 j hj)
    simp only [scanN, hn]
    have := ih { L with pos := L.pos + sectorsOf b.length, list := L.list ++ [b] } n (by simpa using h3) (by dsimp only; omega) (by simp only [List.length_append, List.length_singleton]; omega) he
      (fun h => by dsimp only at h ⊢; rw [Nat.add_assoc L.pos]; exact hst (by omega)) (by omega)
    rw [this]
    simp only [total, Nat.add_assoc, List.append_assoc, List.singleton_append]

theorem good_head {e : Nat} (he : e ≤ 2147483648) : goodOf (headSect e) = ((e : Int), true) := by
  have hne : headSect e ≠ List.replicate 64 0 := by
    intro h
    have := congrArg (fun l => l[0]?) h
    simp [headSect] at this
  have h8 : ((headSect e).drop 1).take 8 = le4 e ++ (le4 (crcOf (1 :: le4 e)) ++ []) := rfl
  have h5 : (headSect e).take 5 = 1 :: le4 e := rfl
  unfold goodOf
  rw [if_neg hne, h8, h5, rd_le4 (by omega) (by omega)]
  dsimp only
  rw [rd_le4 (crcOf_lt _) (by have := crcOf_lt (1 :: le4 e); omega)]
  simp [headSect]

theorem lookStep_first {s : Bytes} (hs : s.length = 64) (hm : s[0]? = some 2) {t T : Nat} (hT : T ≤ 2147483648) (h : ep s ≤ T) : lookStep s t = max t (ep s) := by
  obtain ⟨a, b, c, d, h4, _⟩ := four (s := s) (n := 9) (by omega)
  have he : ep s = val4 a b c d := by unfold ep; rw [h4]
  unfold lookStep
  rw [if_pos hm, h4]
  simp only [Rd.num]
  rw [if_neg (by omega), he]
  simp

theorem lookN_tops (D : DiskS) {T : Nat} (hT : T ≤ 2147483648) : ∀ (n a t : Nat), t ≤ T → (∀ b, a ≤ b → b < a + n → (D.at_ b).length = 64 ∧ ((D.at_ b)[0]? = some 2 → ep (D.at_ b) ≤ T)) →
    t ≤ lookN D n a t ∧ lookN D n a t ≤ T ∧ ∀ b, a ≤ b → b < a + n → (D.at_ b)[0]? = some 2 → ep (D.at_ b) ≤ lookN D n a t := by
  intro n
  induction n with
  | zero => intro a t ht _; exact ⟨Nat.le_refl _, ht, fun b h1 h2 => by omega⟩
  | succ n ih =>
    intro a t ht h
    simp only [lookN]
    have ha := h a (Nat.le_refl _) (by omega)
    have hst : t ≤ lookStep (D.at_ a) t ∧ lookStep (D.at_ a) t ≤ T ∧ ((D.at_ a)[0]? = some 2 → ep (D.at_ a) ≤ lookStep (D.at_ a) t) := by
      by_cases hm : (D.at_ a)[0]? = some 2
      · rw [lookStep_first ha.1 hm hT (ha.2 hm)]
        have := ha.2 hm
        exact ⟨by omega, by omega, fun _ => by omega⟩
      · have : lookStep (D.at_ a) t = t := by unfold lookStep; rw [if_neg hm]
        rw [this]
        exact ⟨Nat.le_refl _, ht, fun x => absurd x hm⟩
    obtain ⟨h1, h2, h3⟩ := ih (a + 1) (lookStep (D.at_ a) t) hst.2.1 (fun b g1 g2 => h b (by omega) (by omega))
    refine ⟨by omega, h2, fun b g1 g2 g3 => ?_⟩
    by_cases hb : b = a
    · subst hb
      have := hst.2.2 g3; omega
    · exact h3 b (by omega) (by omega) g3

/-- what is opened -/
theorem open_rep {D : DiskS} {e h T : Nat} {list : List Bytes} (r : Rep D.at_ D.kept.length e h list T) :
    ∃ t, e ≤ t ∧ t ≤ T ∧ (∀ a, 2 ≤ a → a < D.kept.length → (D.at_ a)[0]? = some 2 → ep (D.at_ a) ≤ t) ∧ openS D = (0, some ⟨e, t, h, total list, list, false⟩, D) := by
  have hsz := r.size
  have hee := r.epoch
  have hT := r.top
  have hgh : goodOf (D.at_ h) = ((e : Int), true) := by rw [r.head]; exact good_head (by omega)
  have hhd : headS D = mkL e h := by
    have hs : ∀ L1, (if (goodOf (D.at_ 0)).2 = true ∧ ((0 : Nat) : Int) < (goodOf (D.at_ 0)).1 then mkL (goodOf (D.at_ 0)).1.toNat 0 else mkL 0 0) = L1 →
        headS D = if (goodOf (D.at_ 1)).2 = true ∧ (L1.epoch : Int) < (goodOf (D.at_ 1)).1 then { L1 with epoch := (goodOf (D.at_ 1)).1.toNat, half := 1 } else L1 := by
      intro L1 h; subst h; rfl
    have ho := r.other
    have hr := goodOf_range (D.at_ (1 - h))
    rcases (show h = 0 ∨ h = 1 by have := r.half; omega) with rfl | rfl
    · rw [hs (mkL e 0) (by rw [hgh, if_pos ⟨rfl, by show ((0 : Nat) : Int) < (e : Int); omega⟩]; rfl)]
      rw [if_neg (by rintro ⟨h1, h2⟩; have := ho h1; rw [show (mkL e 0).epoch = e from rfl] at h2; simp only [Nat.sub_zero] at this; omega)]
    · by_cases h0 : (goodOf (D.at_ 0)).2 = true ∧ ((0 : Nat) : Int) < (goodOf (D.at_ 0)).1
      · have hoo := ho h0.1
        rw [hs (mkL (goodOf (D.at_ 0)).1.toNat 0) (by rw [if_pos h0]), hgh]
        rw [if_pos ⟨rfl, by rw [show (mkL (goodOf (D.at_ 0)).1.toNat 0).epoch = (goodOf (D.at_ 0)).1.toNat from rfl]; simp only [Nat.sub_self] at hoo; show _ < (e : Int); omega⟩]
        rfl
      · rw [hs (mkL 0 0) (by rw [if_neg h0]), hgh, if_pos ⟨rfl, by show ((0 : Nat) : Int) < (e : Int); omega⟩]
        rfl
  obtain ⟨t1, t2, t3⟩ := lookN_tops D hT (D.kept.length - 2) 2 e hee.2 (fun b h1 h2 => ⟨r.len b (by omega), r.tops b h1 (by omega)⟩)
  have hlk : lookS D = ⟨e, lookN D (D.kept.length - 2) 2 e, h, 0, [], false⟩ := by unfold lookS; rw [hhd]; rfl
  refine ⟨lookN D (D.kept.length - 2) 2 e, t1, t2, fun a h1 h2 h3 => t3 a h1 (by omega) h3, ?_⟩
  unfold openS
  rw [if_neg (by omega), hhd, if_neg (by show ¬ (e = 0); omega), hlk]
  have hll := len_le_total list
  have hro := r.room
  have hhf : D.hf = (D.kept.length - 2) / 2 := rfl
  rw [scan_lies D list ⟨e, lookN D (D.kept.length - 2) 2 e, h, 0, [], false⟩ (D.hf + 1) r.lies (by dsimp only; omega) (by simp only [List.length_nil]; omega) (by dsimp only; omega)
    (fun hlt => by dsimp only at hlt ⊢; rw [Nat.zero_add]; exact r.stale _ (Nat.le_refl _) (by omega)) (by omega)]
  simp
end Go.Proofs.Ytbhlolmglieehaa
