/- What becomes of a disk on which is written, whether the power stays or goes. -/
import Derived.Test.YtbhlolmglieehaaPlain1
set_option linter.unusedSimpArgs false
set_option linter.unusedVariables false
namespace Go.Proofs.Ytbhlolmglieehaa

theorem andThen_ok {x : Int × DiskS} {f : DiskS → Int × DiskS} (h : x.1 = 0) : andThen x f = f x.2 := by unfold andThen; rw [if_pos h]
theorem andThen_bad {x : Int × DiskS} {f : DiskS → Int × DiskS} (h : x.1 ≠ 0) : andThen x f = x := by unfold andThen; rw [if_neg h]

/-- each place as it was, or as one of the writes says -/
def Mix (K : List Bytes) (C : List (Nat × Bytes)) (K' : List Bytes) : Prop := K'.length = K.length ∧ ∀ a, K'[a]? = K[a]? ∨ ∃ s, (a, s) ∈ C ∧ K'[a]? = some s

theorem Mix.mono {K K' : List Bytes} {C C' : List (Nat × Bytes)} (h : Mix K C K') (e : ∀ x ∈ C, x ∈ C') : Mix K C' K' :=
  ⟨h.1, fun a => (h.2 a).imp id fun ⟨s, m, x⟩ => ⟨s, e _ m, x⟩⟩
theorem Mix.refl (K : List Bytes) (C : List (Nat × Bytes)) : Mix K C K := ⟨rfl, fun _ => .inl rfl⟩

namespace DiskS
theorem keepSome_mix (keeps : Nat) : ∀ (C : List (Nat × Bytes)) (i : Nat) (K : List Bytes), Mix K C (keepSome keeps i C K) := by
  intro C
  induction C with
  | nil => intro i K; exact Mix.refl K []
  | cons x C ih =>
    intro i K
    obtain ⟨a, s⟩ := x
    simp only [keepSome]
    have h := ih (i + 1) (if keeps.testBit (i % 64) = true then K.set a s else K)
    refine ⟨by rw [keepSome_len]; split <;> simp, fun b => ?_⟩
    rcases h.2 b with h1 | ⟨t, m, h1⟩
    · rw [h1]
      split
      · rw [List.getElem?_set]
        split
        · rename_i _ hab
          subst hab
          split
          · exact .inr ⟨s, .head _, rfl⟩
          · rename_i hlt
            left
            rw [List.getElem?_eq_none (by omega)]
        · exact .inl rfl
      · exact .inl rfl
    · exact .inr ⟨t, .tail _ m, h1⟩

/-- the power stays, or goes with these writes under way -/
def Out (D : DiskS) (K : List Bytes) (C C' : List (Nat × Bytes)) (x : Int × DiskS) : Prop :=
  (x.1 = 0 ∧ x.2.down = false ∧ x.2.kept = K ∧ x.2.cache = C' ∧ (D.fate ≤ 0 → x.2.fate ≤ 0)) ∨ (x.1 = 3 ∧ 0 < D.fate ∧ x.2.down = true ∧ x.2.cache = [] ∧ x.2.fate = -1 ∧ Mix D.kept C x.2.kept)

theorem step_out (D : DiskS) : (D.step.1 = true ∧ D.step.2.down = D.down ∧ D.step.2.kept = D.kept ∧ D.step.2.cache = D.cache ∧ (D.fate ≤ 0 → D.step.2.fate ≤ 0)) ∨
    (D.step.1 = false ∧ 0 < D.fate ∧ D.step.2.down = true ∧ D.step.2.cache = [] ∧ D.step.2.fate = -1 ∧ Mix D.kept D.cache D.step.2.kept) := by
  unfold DiskS.step
  split
  · split
    · exact .inr ⟨rfl, by assumption, rfl, rfl, rfl, keepSome_mix _ _ _ _⟩
    · exact .inl ⟨rfl, rfl, rfl, rfl, fun h => by dsimp only; omega⟩
  · exact .inl ⟨rfl, rfl, rfl, rfl, fun h => h⟩

theorem write_out {D : DiskS} (hd : D.down = false) {a : Nat} (ha : a < D.kept.length) (s : Bytes) : Out D D.kept (D.cache ++ [(a, s)]) (D.cache ++ [(a, s)]) (D.write a s) := by
  unfold DiskS.write
  rw [if_neg (by simp [hd]), if_neg (by omega)]
  have h := step_out { D with cache := D.cache ++ [((a : Int).toNat, s)] }
  simp only [Int.toNat_natCast] at h ⊢
  rcases h with ⟨h1, h2, h3, h4, h5⟩ | ⟨h1, h2, h3, h4, h5, h6⟩
  · exact .inl ⟨by simp [h1], by simpa [hd] using h2, h3, h4, h5⟩
  · exact .inr ⟨by simp [h1], h2, h3, h4, h5, h6⟩

theorem flush_out {D : DiskS} (hd : D.down = false) : Out D (keepAll D.cache D.kept) D.cache [] D.flush := by
  unfold DiskS.flush
  rw [if_neg (by simp [hd])]
  have h := step_out D
  dsimp only
  generalize D.step = x at *
  rcases h with ⟨h1, h2, h3, h4, h5⟩ | ⟨h1, h2, h3, h4, h5, h6⟩
  · rw [if_pos h1]
    exact .inl ⟨rfl, by dsimp only; rw [h2, hd], by dsimp only; rw [h3, h4], rfl, h5⟩
  · rw [if_neg (by simp [h1])]
    exact .inr ⟨rfl, h2, h3, h4, h5, h6⟩

/-- writes one behind the other, from a place on -/
def puts (a : Nat) : List Bytes → List (Nat × Bytes)
  | [] => []
  | s :: r => (a, s) :: puts (a + 1) r

theorem put_out : ∀ (ss : List Bytes) {D : DiskS} (_ : D.down = false) (a : Nat), a + ss.length ≤ D.kept.length → Out D D.kept (D.cache ++ puts a ss) (D.cache ++ puts a ss) (D.put a ss) := by
  intro ss
  induction ss with
  | nil => intro D h a _; exact .inl ⟨rfl, h, rfl, by simp [put, puts], fun h => h⟩
  | cons s r ih =>
    intro D h a ha
    simp only [List.length_cons] at ha
    simp only [put, puts]
    have hw := write_out h (show a < D.kept.length by omega) s
    generalize D.write a s = x at *
    rcases hw with ⟨h1, h2, h3, h4, h5⟩ | ⟨h1, h2, h3, h4, h5, h6⟩
    · rw [if_pos h1]
      have := ih h2 (a + 1) (by rw [h3]; omega)
      rw [h3, h4, List.append_assoc, List.singleton_append] at this
      rcases this with ⟨g1, g2, g3, g4, g5⟩ | ⟨g1, g2, g3, g4, g5, g6⟩
      · exact .inl ⟨g1, g2, g3, g4, fun h => g5 (h5 h)⟩
      · refine .inr ⟨g1, ?_, g3, g4, g5, by rw [h3] at g6; exact g6⟩
        rcases Int.lt_or_le 0 D.fate with q | q
        · exact q
        · have := h5 q; omega
    · rw [if_neg (by omega)]
      refine .inr ⟨h1, h2, h3, h4, h5, h6.mono fun y hy => ?_⟩
      rcases List.mem_append.1 hy with hy | hy
      · exact List.mem_append_left _ hy
      · rw [List.mem_singleton] at hy; subst hy; exact List.mem_append_right _ (.head _)

theorem putFlush_out {D : DiskS} (hd : D.down = false) (hc : D.cache = []) (ss : List Bytes) (a : Nat) (ha : a + ss.length ≤ D.kept.length) :
    Out D (keepAll (puts a ss) D.kept) (puts a ss) [] (andThen (D.put a ss) flush) := by
  have h := put_out ss hd a ha
  rw [hc, List.nil_append] at h
  unfold andThen
  generalize D.put a ss = x at *
  rcases h with ⟨h1, h2, h3, h4, h5⟩ | ⟨h1, h2, h3, h4, h5, h6⟩
  · rw [if_pos h1]
    have := flush_out h2
    rw [h3, h4] at this
    rcases this with ⟨g1, g2, g3, g4, g5⟩ | ⟨g1, g2, g3, g4, g5, g6⟩
    · exact .inl ⟨g1, g2, g3, g4, fun h => g5 (h5 h)⟩
    · refine .inr ⟨g1, ?_, g3, g4, g5, by rw [h3] at g6; exact g6⟩
      rcases Int.lt_or_le 0 D.fate with q | q
      · exact q
      · have := h5 q; omega
  · rw [if_neg (by omega)]
    exact .inr ⟨h1, h2, h3, h4, h5, h6⟩
end DiskS

/-- what becomes of a record that is kept -/
theorem LogS.keep_out (L : LogS) {D : DiskS} (hd : D.down = false) (hc : D.cache = []) {ss : List Bytes} (hn : 1 ≤ ss.length) (hb : L.base D L.pos + ss.length ≤ D.kept.length) :
    ((L.keep D ss).1 = 0 ∧ (L.keep D ss).2.down = false ∧ (L.keep D ss).2.cache = [] ∧ (D.fate ≤ 0 → (L.keep D ss).2.fate ≤ 0) ∧
      (L.keep D ss).2.kept = DiskS.keepAll (DiskS.puts (L.base D L.pos) (ss.take 1)) (DiskS.keepAll (DiskS.puts (L.base D L.pos + 1) ss.tail) D.kept)) ∨
    ((L.keep D ss).1 = 3 ∧ 0 < D.fate ∧ (L.keep D ss).2.down = true ∧ (L.keep D ss).2.cache = [] ∧ (L.keep D ss).2.fate = -1 ∧
      (Mix D.kept (DiskS.puts (L.base D L.pos + 1) ss.tail) (L.keep D ss).2.kept ∨
       Mix (DiskS.keepAll (DiskS.puts (L.base D L.pos + 1) ss.tail) D.kept) (DiskS.puts (L.base D L.pos) (ss.take 1)) (L.keep D ss).2.kept)) := by
  have t1 : (ss.take 1).length = 1 := by simp; omega
  have hb1 : L.base D (L.pos + 1) = L.base D L.pos + 1 := by unfold LogS.base; omega
  have hb2 : ∀ (D' : DiskS), D'.kept.length = D.kept.length → L.base D' L.pos = L.base D L.pos := fun D' e => by unfold LogS.base; rw [hf_eq e]
  have first : DiskS.Out D (DiskS.keepAll (DiskS.puts (L.base D L.pos + 1) ss.tail) D.kept) (DiskS.puts (L.base D L.pos + 1) ss.tail) [] (if 1 < ss.length then andThen (D.put (L.base D (L.pos + 1)) ss.tail) DiskS.flush else (0, D)) := by
    split
    · rw [hb1]
      exact DiskS.putFlush_out hd hc ss.tail _ (by rw [List.length_tail]; omega)
    · have : ss.tail = [] := List.length_eq_zero_iff.1 (by rw [List.length_tail]; omega)
      rw [this]
      exact .inl ⟨rfl, hd, rfl, hc, fun h => h⟩
  unfold LogS.keep
  generalize (if 1 < ss.length then andThen (D.put (L.base D (L.pos + 1)) ss.tail) DiskS.flush else (0, D)) = x at *
  have hk : (DiskS.keepAll (DiskS.puts (L.base D L.pos + 1) ss.tail) D.kept).length = D.kept.length := DiskS.keepAll_len _ _
  rcases first with ⟨h1, h2, h3, h4, h5⟩ | ⟨h1, h2, h3, h4, h5, h6⟩
  · have e : andThen x (fun D => andThen (D.put (L.base D L.pos) (ss.take 1)) DiskS.flush) = andThen (x.2.put (L.base D L.pos) (ss.take 1)) DiskS.flush := by
      rw [andThen_ok h1, hb2 x.2 (by rw [h3]; exact hk)]
    rw [e]
    have := DiskS.putFlush_out h2 h4 (ss.take 1) (L.base D L.pos) (by rw [h3, hk]; omega)
    rw [h3] at this
    rcases this with ⟨g1, g2, g3, g4, g5⟩ | ⟨g1, g2, g3, g4, g5, g6⟩
    · exact .inl ⟨g1, g2, g4, fun h => g5 (h5 h), g3⟩
    · refine .inr ⟨g1, ?_, g3, g4, g5, .inr (by rw [h3] at g6; exact g6)⟩
      rcases Int.lt_or_le 0 D.fate with q | q
      · exact q
      · have := h5 q; omega
  · have e : andThen x (fun D => andThen (D.put (L.base D L.pos) (ss.take 1)) DiskS.flush) = x := by
      exact andThen_bad (by omega)
    rw [e]
    exact .inr ⟨h1, h2, h3, h4, h5, .inl h6⟩
end Go.Proofs.Ytbhlolmglieehaa
