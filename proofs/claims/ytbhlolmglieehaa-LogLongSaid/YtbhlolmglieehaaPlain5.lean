/- What becomes of a disk that bears a log. -/
import Derived.Test.YtbhlolmglieehaaPlain4
set_option linter.unusedSimpArgs false
set_option linter.unusedVariables false
namespace Go.Proofs.Ytbhlolmglieehaa

def fK (K : List Bytes) (a : Nat) : Bytes := K.getD a []

theorem at_nil {D : DiskS} (h : D.cache = []) : D.at_ = fK D.kept := by
  funext a; unfold DiskS.at_ fK; rw [h]; rfl

theorem Lies.congr {f f' : Nat → Bytes} {B e : Nat} : ∀ {rs : List Bytes} {p q : Nat}, Lies f B e p q rs → (∀ k, p ≤ k → k < p + total rs → f' (B + k) = f (B + k)) → Lies f' B e p q rs := by
  intro rs
  induction rs with
  | nil => intro p q _ _; trivial
  | cons b r ih =>
    intro p q h hf
    obtain ⟨h1, h2, h3⟩ := h
    simp only [total] at hf
    refine ⟨fun j hj => ?_, h2, ih h3 fun k k1 k2 => hf k (by omega) (by omega)⟩
    rw [← h1 j hj, Nat.add_assoc, hf (p + j) (by omega) (by omega)]

theorem Lies.snoc {f : Nat → Bytes} {B e : Nat} {b : Bytes} : ∀ {rs : List Bytes} {p q : Nat}, Lies f B e p q rs → (∀ j, j < sectorsOf b.length → f (B + (p + total rs) + j) = sectOf (hdrOf (q + rs.length) e b) j) → b.length ≤ 4096 → Lies f B e p q (rs ++ [b]) := by
  intro rs
  induction rs with
  | nil => intro p q _ h hb; exact ⟨fun j hj => by simpa [total] using h j hj, hb, trivial⟩
  | cons x r ih =>
    intro p q h hs hb
    obtain ⟨h1, h2, h3⟩ := h
    simp only [total, List.length_cons] at hs
    refine ⟨h1, h2, ih h3 (fun j hj => ?_) hb⟩
    rw [show q + 1 + r.length = q + (r.length + 1) by omega, show p + sectorsOf x.length + total r = p + (sectorsOf x.length + total r) by omega]
    exact hs j hj

theorem sect_more {all : Bytes} {j : Nat} (h : 1 ≤ j) : (sectOf all j)[0]? = some 3 := by unfold sectOf; rw [if_neg (by omega)]; rfl
theorem stale_more {all : Bytes} {j e : Nat} (h : 1 ≤ j) : Stale e (sectOf all j) := by
  rintro ⟨h1, _⟩; rw [sect_more h] at h1; cases h1

theorem ep_first (q e : Nat) (b : Bytes) (he : e < 4294967296) : ep (sectOf (hdrOf q e b) 0) = e := by
  have hal := hdrOf_len q e b
  have : (((sectOf (hdrOf q e b) 0).drop 9).take 4) = le4 e := by
    unfold sectOf
    simp only [Nat.zero_mul, List.drop_zero, List.drop_succ_cons]
    have h12 : 12 ≤ ((hdrOf q e b).take 63).length := by rw [List.length_take, hal]; omega
    rw [List.drop_append_of_le_length (by omega), List.take_append_of_le_length (by rw [List.length_drop]; omega), List.drop_take, List.take_take]
    unfold hdrOf
    have : ∀ x y z r : Bytes, x.length = 4 → y.length = 4 → z.length = 4 → List.take (min 4 (63 - 8)) (List.drop 8 (x ++ (y ++ (z ++ r)))) = z := by
      intro x y z r h1 h2 h3
      rw [show x ++ (y ++ (z ++ r)) = (x ++ y) ++ (z ++ r) by simp, List.drop_append, List.drop_eq_nil_of_le (by simp; omega), show 8 - (x ++ y).length = 0 by simp; omega]
      rw [List.drop_zero, List.nil_append, show min 4 (63 - 8) = 4 from rfl, List.take_append_of_le_length (by omega), List.take_of_length_le (by omega)]
    exact this _ _ _ _ (le4_len _) (le4_len _) (le4_len _)
  unfold ep
  rw [this]
  exact val4_le4 e he

/-- the log stands as it was -/
theorem Rep.stands {f f' : Nat → Bytes} {n e h T T' : Nat} {list : List Bytes} (r : Rep f n e h list T) (h2 : ∀ a, a < 2 → f' a = f a) (hT : T ≤ T') (hT' : T' ≤ 2147483648)
    (hk : ∀ k, k < total list → f' (2 + h * ((n - 2) / 2) + k) = f (2 + h * ((n - 2) / 2) + k))
    (hs : ∀ k, total list ≤ k → k < (n - 2) / 2 → Stale e (f' (2 + h * ((n - 2) / 2) + k)))
    (ht : ∀ a, 2 ≤ a → a < n → (f' a)[0]? = some 2 → ep (f' a) ≤ T') (hl : ∀ a, a < n → (f' a).length = 64) : Rep f' n e h list T' := by
  have hh := r.half
  exact ⟨r.size, r.half, ⟨r.epoch.1, Nat.le_trans r.epoch.2 hT⟩, hT', r.lies.congr (fun k _ k2 => hk k (by omega)), r.room, hs, by rw [h2 h (by omega)]; exact r.head,
    by rw [h2 (1 - h) (by omega)]; exact r.other, ht, hl⟩

/-- the power went while a record was being kept -/
theorem Rep.torn {f f' : Nat → Bytes} {n e h T : Nat} {list : List Bytes} (r : Rep f n e h list T) {all : Bytes} {k : Nat} (hk : total list + k ≤ (n - 2) / 2)
    (hf : ∀ a, a < n → f' a = f a ∨ (2 + h * ((n - 2) / 2) + total list + 1 ≤ a ∧ a < 2 + h * ((n - 2) / 2) + total list + k ∧ ∃ j, 1 ≤ j ∧ f' a = sectOf all j)) : Rep f' n e h list T := by
  have hh := r.half
  have hsz := r.size
  have hm : h * ((n - 2) / 2) ≤ (n - 2) / 2 := by have := Nat.mul_le_mul_right ((n - 2) / 2) hh; omega
  refine r.stands (fun a ha => ?_) (Nat.le_refl _) r.top (fun k' hk' => ?_) (fun k' h1 h3 => ?_) (fun a h1 h3 hm2 => ?_) (fun a ha => ?_)
  · rcases hf a (by omega) with e | ⟨e, _⟩
    · exact e
    · omega
  · rcases hf (2 + h * ((n - 2) / 2) + k') (by omega) with e | ⟨e, _⟩
    · exact e
    · omega
  · rcases hf (2 + h * ((n - 2) / 2) + k') (by omega) with e | ⟨_, _, j, hj, e⟩
    · rw [e]; exact r.stale k' h1 h3
    · rw [e]; exact stale_more hj
  · rcases hf a h3 with e | ⟨_, _, j, hj, e⟩
    · rw [e] at hm2 ⊢; exact r.tops a h1 h3 hm2
    · rw [e, sect_more hj] at hm2; cases hm2
  · rcases hf a ha with e | ⟨_, _, j, hj, e⟩
    · rw [e]; exact r.len a ha
    · rw [e]; exact sectOf_len _ _

/-- a record was kept -/
theorem Rep.kept {f f' : Nat → Bytes} {n e h T : Nat} {list : List Bytes} (r : Rep f n e h list T) {b : Bytes} (hb : b.length ≤ 4096) (hk : total list + sectorsOf b.length ≤ (n - 2) / 2)
    (hf : ∀ a, a < n → f' a = if 2 + h * ((n - 2) / 2) + total list ≤ a ∧ a < 2 + h * ((n - 2) / 2) + total list + sectorsOf b.length then sectOf (hdrOf list.length e b) (a - (2 + h * ((n - 2) / 2) + total list)) else f a) :
    Rep f' n e h (list ++ [b]) T := by
  have hh := r.half
  have hsz := r.size
  have hee := r.epoch
  have hT := r.top
  have hm : h * ((n - 2) / 2) ≤ (n - 2) / 2 := by have := Nat.mul_le_mul_right ((n - 2) / 2) hh; omega
  have htot : total (list ++ [b]) = total list + sectorsOf b.length := by rw [total_app]; simp [total]
  have hs1 : 1 ≤ sectorsOf b.length := by unfold sectorsOf; omega
  refine ⟨r.size, r.half, r.epoch, r.top, ?_, by omega, fun k h1 h3 => ?_, ?_, ?_, fun a h1 h3 hm2 => ?_, fun a ha => ?_⟩
  · refine (r.lies.congr (f' := f') fun k _ k2 => ?_).snoc (fun j hj => ?_) hb
    · rw [hf _ (by omega), if_neg (by omega)]
    · rw [Nat.zero_add, Nat.zero_add, hf _ (by omega), if_pos (by omega)]
      congr 1; omega
  · rw [hf _ (by omega), if_neg (by omega)]
    exact r.stale k (by omega) h3
  · rw [hf h (by omega), if_neg (by omega)]; exact r.head
  · rw [hf (1 - h) (by omega), if_neg (by omega)]; exact r.other
  · rw [hf a h3] at hm2 ⊢
    split at hm2
    · rename_i hc
      rw [if_pos hc]
      by_cases h0 : a - (2 + h * ((n - 2) / 2) + total list) = 0
      · rw [h0, ep_first _ _ _ (by omega)]; exact hee.2
      · rw [sect_more (by omega)] at hm2; cases hm2
    · rename_i hc
      rw [if_neg hc]
      exact r.tops a h1 h3 hm2
  · rw [hf a ha]
    split
    · exact sectOf_len _ _
    · exact r.len a ha

/-- the sectors of records, one behind the other -/
def allSecs (e : Nat) : Nat → List Bytes → List Bytes
  | _, [] => []
  | q, b :: r => cutOf q e b ++ allSecs e (q + 1) r

theorem allSecs_len (e : Nat) : ∀ (rs : List Bytes) (q : Nat), (allSecs e q rs).length = total rs := by
  intro rs
  induction rs with
  | nil => intro q; rfl
  | cons b r ih => intro q; simp only [allSecs, total, List.length_append, cutOf_len, ih]

theorem allSecs_mem {e : Nat} (he : e < 4294967296) : ∀ (rs : List Bytes) (q : Nat) (s : Bytes), s ∈ allSecs e q rs → s.length = 64 ∧ (s[0]? = some 2 → ep s = e) := by
  intro rs
  induction rs with
  | nil => intro q s h; cases h
  | cons b r ih =>
    intro q s h
    rcases List.mem_append.1 h with h | h
    · obtain ⟨i, hi, rfl⟩ := List.mem_map.1 h
      refine ⟨sectOf_len _ _, fun hm => ?_⟩
      by_cases h0 : i = 0
      · subst h0; exact ep_first _ _ _ he
      · rw [sect_more (by omega)] at hm; cases hm
    · exact ih (q + 1) s h

theorem lies_secs {f : Nat → Bytes} {B e : Nat} : ∀ (rs : List Bytes) (p q : Nat), (∀ b ∈ rs, b.length ≤ 4096) → (∀ j, j < total rs → f (B + p + j) = (allSecs e q rs).getD j []) → Lies f B e p q rs := by
  intro rs
  induction rs with
  | nil => intro p q _ _; trivial
  | cons b r ih =>
    intro p q h4 h
    simp only [total, allSecs] at h
    have hl := cutOf_len q e b
    refine ⟨fun j hj => ?_, h4 b (.head _), ih (p + sectorsOf b.length) (q + 1) (fun x hx => h4 x (.tail _ hx)) fun j hj => ?_⟩
    · rw [h j (by omega), List.getD_eq_getElem?_getD, List.getElem?_append_left (by omega)]
      unfold cutOf
      rw [List.getElem?_map, List.getElem?_range hj]; rfl
    · have := h (sectorsOf b.length + j) (by omega)
      rw [show B + (p + sectorsOf b.length) + j = B + p + (sectorsOf b.length + j) by omega, this, List.getD_eq_getElem?_getD, List.getElem?_append_right (by omega), hl, Nat.add_sub_cancel_left, List.getD_eq_getElem?_getD]

/-- a log was written anew -/
theorem Rep.anew {f f' : Nat → Bytes} {n t h : Nat} {bss : List Bytes} (hsz : 6 ≤ n ∧ n ≤ 4096) (hh : h ≤ 1) (ht : t + 1 ≤ 2147483648) (h4 : ∀ b ∈ bss, b.length ≤ 4096) (hroom : total bss ≤ (n - 2) / 2)
    (hlen : ∀ a, a < n → (f a).length = 64) (htops : ∀ a, 2 ≤ a → a < n → (f a)[0]? = some 2 → ep (f a) ≤ t) (hheads : ∀ a, a < 2 → (goodOf (f a)).2 = true → (goodOf (f a)).1 ≤ t)
    (hf : ∀ a, a < n → f' a = if 2 + h * ((n - 2) / 2) ≤ a ∧ a < 2 + h * ((n - 2) / 2) + total bss then (allSecs (t + 1) 0 bss).getD (a - (2 + h * ((n - 2) / 2))) [] else if a = h then headSect (t + 1) else f a) :
    Rep f' n (t + 1) h bss (t + 1) := by
  have hm : h * ((n - 2) / 2) ≤ (n - 2) / 2 := by have := Nat.mul_le_mul_right ((n - 2) / 2) hh; omega
  have hal := allSecs_len (t + 1) bss 0
  have hin : ∀ j, j < total bss → (allSecs (t + 1) 0 bss).getD j [] ∈ allSecs (t + 1) 0 bss := fun j hj => by
    rw [List.getD_eq_getElem?_getD, List.getElem?_eq_getElem (by omega)]; exact List.getElem_mem _
  refine ⟨hsz, hh, ⟨by omega, Nat.le_refl _⟩, ht, ?_, hroom, fun k h1 h3 => ?_, ?_, fun hg => ?_, fun a h1 h3 hm2 => ?_, fun a ha => ?_⟩
  · refine lies_secs bss 0 0 h4 fun j hj => ?_
    rw [Nat.add_zero, hf _ (by omega), if_pos (by omega)]
    congr 1; omega
  · rw [hf _ (by omega), if_neg (by omega), if_neg (by omega)]
    rintro ⟨g1, g2⟩
    have := htops _ (by omega) (by omega) g1
    omega
  · rw [hf h (by omega), if_neg (by omega), if_pos rfl]
  · rw [hf (1 - h) (by omega), if_neg (by omega), if_neg (by omega)] at hg ⊢
    have := hheads (1 - h) (by omega) hg
    omega
  · rw [hf a h3] at hm2 ⊢
    split at hm2
    · rename_i hc
      rw [if_pos hc]
      have := (allSecs_mem (by omega) bss 0 _ (hin (a - (2 + h * ((n - 2) / 2))) (by omega))).2 hm2
      omega
    · rename_i hc
      rw [if_neg hc, if_neg (by omega)]
      rw [if_neg (by omega)] at hm2
      have := htops a h1 h3 hm2; omega
  · rw [hf a ha]
    split
    · exact (allSecs_mem (by omega) bss 0 _ (hin (a - (2 + h * ((n - 2) / 2))) (by omega))).1
    · split
      · rfl
      · exact hlen a ha

/-- the power went while a log was being written anew -/
theorem Rep.tornAnew {f f' : Nat → Bytes} {n e h T t : Nat} {list bss : List Bytes} (r : Rep f n e h list T) (ht : t + 1 ≤ 2147483648) (hroom : total bss ≤ (n - 2) / 2)
    (hf : ∀ a, a < n → f' a = f a ∨ (2 + (1 - h) * ((n - 2) / 2) ≤ a ∧ a < 2 + (1 - h) * ((n - 2) / 2) + total bss ∧ f' a ∈ allSecs (t + 1) 0 bss)) : Rep f' n e h list (max T (t + 1)) := by
  have hh := r.half
  have hsz := r.size
  have hT := r.top
  have hro := r.room
  have hcase : h = 0 ∨ h = 1 := by omega
  have dis : ∀ k, k < (n - 2) / 2 → f' (2 + h * ((n - 2) / 2) + k) = f (2 + h * ((n - 2) / 2) + k) := by
    intro k hk
    rcases hcase with rfl | rfl
    · rcases hf (2 + 0 * ((n - 2) / 2) + k) (by omega) with e | ⟨e, _⟩
      · exact e
      · omega
    · rcases hf (2 + 1 * ((n - 2) / 2) + k) (by omega) with e | ⟨_, e, _⟩
      · exact e
      · omega
  refine r.stands (fun a ha => ?_) (by omega) (by omega) (fun k' hk' => dis k' (by omega)) (fun k' h1 h3 => by rw [dis k' h3]; exact r.stale k' h1 h3) (fun a h1 h3 hm2 => ?_) (fun a ha => ?_)
  · rcases hf a (by omega) with e | ⟨e, _⟩
    · exact e
    · omega
  · rcases hf a h3 with e | ⟨_, _, e⟩
    · rw [e] at hm2 ⊢; have := r.tops a h1 h3 hm2; omega
    · have := (allSecs_mem (by omega) bss 0 _ e).2 hm2; omega
  · rcases hf a ha with e | ⟨_, _, e⟩
    · rw [e]; exact r.len a ha
    · exact (allSecs_mem (by omega) bss 0 _ e).1
end Go.Proofs.Ytbhlolmglieehaa
