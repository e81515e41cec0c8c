/- Logs that are held: opened, appended to. -/
import Derived.Test.YtbhlolmglieehaaPlain5
set_option linter.unusedSimpArgs false
set_option linter.unusedVariables false
namespace Go.Proofs.Ytbhlolmglieehaa

theorem fK_keepAll : ∀ (ss : List Bytes) (a i : Nat) (K : List Bytes), a + ss.length ≤ K.length → fK (DiskS.keepAll (DiskS.puts a ss) K) i = if a ≤ i ∧ i < a + ss.length then ss.getD (i - a) [] else fK K i := by
  intro ss
  induction ss with
  | nil => intro a i K _; simp only [DiskS.puts, DiskS.keepAll, List.length_nil]; rw [if_neg (by omega)]
  | cons s r ih =>
    intro a i K h
    simp only [List.length_cons] at h
    simp only [DiskS.puts, DiskS.keepAll, List.length_cons]
    rw [ih (a + 1) i (K.set a s) (by rw [List.length_set]; omega)]
    by_cases h1 : a + 1 ≤ i ∧ i < a + 1 + r.length
    · rw [if_pos h1, if_pos (by omega), show i - a = (i - (a + 1)) + 1 by omega, List.getD_cons_succ]
    · rw [if_neg h1]
      by_cases h2 : i = a
      · subst h2
        rw [if_pos (by omega), Nat.sub_self, List.getD_cons_zero]
        unfold fK
        rw [List.getD_eq_getElem?_getD, List.getElem?_set, if_pos rfl, if_pos (by omega)]; rfl
      · rw [if_neg (by omega)]
        unfold fK
        rw [List.getD_eq_getElem?_getD, List.getElem?_set, if_neg (by omega), List.getD_eq_getElem?_getD]

theorem puts_mem : ∀ (ss : List Bytes) (b a : Nat) (s : Bytes), (a, s) ∈ DiskS.puts b ss → ∃ j, j < ss.length ∧ a = b + j ∧ ss[j]? = some s := by
  intro ss
  induction ss with
  | nil => intro b a s h; cases h
  | cons x r ih =>
    intro b a s h
    rcases List.mem_cons.1 h with h | h
    · cases h; exact ⟨0, by simp, rfl, rfl⟩
    · obtain ⟨j, h1, h2, h3⟩ := ih (b + 1) a s h
      exact ⟨j + 1, by simp; omega, by omega, by simpa using h3⟩

theorem Mix.at {K K' : List Bytes} {C : List (Nat × Bytes)} (h : Mix K C K') (a : Nat) : fK K' a = fK K a ∨ ∃ s, (a, s) ∈ C ∧ fK K' a = s := by
  unfold fK
  simp only [List.getD_eq_getElem?_getD]
  rcases h.2 a with e | ⟨s, m, e⟩
  · exact .inl (by rw [e])
  · exact .inr ⟨s, m, by rw [e]; rfl⟩

structure Held (L : LogS) (D : DiskS) (rs : List Bytes) : Prop where
  ok : L.Ok D
  list : L.list = rs
  pos : L.pos = total rs
  dead : L.dead = false
  down : D.down = false
  cache : D.cache = []
  rep : Rep (fK D.kept) D.kept.length L.epoch L.half rs L.top

theorem Rep.lower {f : Nat → Bytes} {n e h T t : Nat} {list : List Bytes} (r : Rep f n e h list T) (h1 : e ≤ t) (h2 : t ≤ T) (h3 : ∀ a, 2 ≤ a → a < n → (f a)[0]? = some 2 → ep (f a) ≤ t) : Rep f n e h list t :=
  ⟨r.size, r.half, ⟨r.epoch.1, h1⟩, Nat.le_trans h2 r.top, r.lies, r.room, r.stale, r.head, r.other, h3, r.len⟩

theorem open_held {D : DiskS} (hok : D.Ok) (hd : D.down = false) (hc : D.cache = []) {e h T : Nat} {list : List Bytes} (r : Rep (fK D.kept) D.kept.length e h list T) :
    ∃ L, openS D = (0, some L, D) ∧ Held L D list ∧ L.top ≤ T ∧ L.epoch = e ∧ L.half = h := by
  have r' : Rep D.at_ D.kept.length e h list T := by rw [at_nil hc]; exact r
  obtain ⟨t, t1, t2, t3, ho⟩ := open_rep r'
  rw [at_nil hc] at t3
  have hT := r.top
  have hl := len_le_total list
  exact ⟨_, ho, ⟨⟨r.half, r.room, by dsimp only; omega, by dsimp only; omega, hl, hok, r.size.1⟩, rfl, rfl, rfl, hd, hc, r.lower t1 t2 t3⟩, t2, rfl, rfl⟩

theorem append_held {L : LogS} {D : DiskS} {list : List Bytes} (hd : Held L D list) {b : Bytes} (hb : b.length ≤ 4096) (hroom : total list + sectorsOf b.length ≤ D.hf) :
    ((L.append D b).1 = 0 ∧ Held (L.append D b).2.1 (L.append D b).2.2 (list ++ [b]) ∧ (D.fate ≤ 0 → (L.append D b).2.2.fate ≤ 0) ∧ (L.append D b).2.2.kept.length = D.kept.length) ∨
    ((L.append D b).1 = 3 ∧ 0 < D.fate ∧ (L.append D b).2.1.dead = true ∧ (L.append D b).2.2.Ok ∧ (L.append D b).2.2.down = true ∧ (L.append D b).2.2.cache = [] ∧ (L.append D b).2.2.fate = -1 ∧ (L.append D b).2.2.kept.length = D.kept.length ∧
      ∃ l', (l' = list ∨ l' = list ++ [b]) ∧ Rep (fK (L.append D b).2.2.kept) D.kept.length L.epoch L.half l' L.top) := by
  have hok := (L.append_ok hd.ok (by rw [hd.cache]; simp) b)
  have r := hd.rep
  have hh := r.half
  have hsz := r.size
  have hpos := hd.pos
  have hlist := hd.list
  have hs1 : 1 ≤ sectorsOf b.length := by unfold sectorsOf; omega
  have hhf : D.hf = (D.kept.length - 2) / 2 := rfl
  have hm : L.half * ((D.kept.length - 2) / 2) ≤ (D.kept.length - 2) / 2 := by have := Nat.mul_le_mul_right ((D.kept.length - 2) / 2) hh; omega
  have hbase : L.base D L.pos = 2 + L.half * ((D.kept.length - 2) / 2) + total list := by unfold LogS.base; rw [hhf, hpos]
  have hcl := cutOf_len L.list.length L.epoch b
  have hko := L.keep_out hd.down hd.cache (ss := cutOf L.list.length L.epoch b) (by omega) (by rw [hbase]; omega)
  unfold LogS.append at hok ⊢
  rw [if_neg (by simp [hd.dead]), if_neg (by omega), if_neg (by omega)] at hok ⊢
  rw [hlist, hbase] at hko
  rw [hlist] at hok ⊢
  rw [hlist] at hcl
  have hgt : (cutOf list.length L.epoch b).take 1 = [sectOf (hdrOf list.length L.epoch b) 0] := by
    unfold cutOf
    obtain ⟨k, hk⟩ : ∃ k, sectorsOf b.length = k + 1 := ⟨sectorsOf b.length - 1, by omega⟩
    rw [hk, List.range_succ_eq_map]; rfl
  have hgd : ∀ j, j < (cutOf list.length L.epoch b).tail.length → (cutOf list.length L.epoch b).tail[j]? = some (sectOf (hdrOf list.length L.epoch b) (j + 1)) := by
    intro j hj
    rw [List.length_tail] at hj
    rw [List.getElem?_tail]
    unfold cutOf
    rw [List.getElem?_map, List.getElem?_range (by omega)]; rfl
  have htl : (cutOf list.length L.epoch b).tail.length = sectorsOf b.length - 1 := by rw [List.length_tail]; omega
  generalize hB : 2 + L.half * ((D.kept.length - 2) / 2) + total list = B at *
  have f1 : ∀ i, fK (DiskS.keepAll (DiskS.puts (B + 1) (cutOf list.length L.epoch b).tail) D.kept) i = if B + 1 ≤ i ∧ i < B + sectorsOf b.length then sectOf (hdrOf list.length L.epoch b) (i - B) else fK D.kept i := by
    intro i
    rw [fK_keepAll _ _ _ _ (by omega)]
    by_cases hi : B + 1 ≤ i ∧ i < B + sectorsOf b.length
    · rw [if_pos (by omega), if_pos hi, List.getD_eq_getElem?_getD, hgd _ (by omega), show i - (B + 1) + 1 = i - B by omega]; rfl
    · rw [if_neg (by omega), if_neg hi]
  rw [hgt] at hko
  have hk1 : (DiskS.keepAll (DiskS.puts (B + 1) (cutOf list.length L.epoch b).tail) D.kept).length = D.kept.length := DiskS.keepAll_len _ _
  generalize L.keep D (cutOf list.length L.epoch b) = x at *
  rcases hko with ⟨k1, k2, k3, k4, k5⟩ | ⟨k1, k2, k3, k4, k5, k6⟩
  · rw [if_pos k1] at hok ⊢
    refine .inl ⟨rfl, ⟨hok.1, rfl, by rw [total_app]; simp only [total]; omega, hd.dead, k2, k3, ?_⟩, k4, hok.2.size⟩
    dsimp only
    rw [hok.2.size]
    refine r.kept hb (by omega) fun a ha => ?_
    rw [k5, fK_keepAll _ _ _ _ (by rw [hk1]; simp only [List.length_singleton]; omega), f1, hB]
    simp only [List.length_singleton]
    by_cases h1 : a = B
    · subst h1
      rw [if_pos (by omega), if_pos (by omega), Nat.sub_self]; rfl
    · rw [if_neg (by omega)]
      by_cases h2 : B + 1 ≤ a ∧ a < B + sectorsOf b.length
      · rw [if_pos h2, if_pos (by omega)]
      · rw [if_neg h2, if_neg (by omega)]
  · rw [if_neg (by omega)] at hok ⊢
    refine .inr ⟨k1, k2, rfl, hok.2.ok, k3, k4, k5, hok.2.size, ?_⟩
    dsimp only
    rcases k6 with k6 | k6
    · refine ⟨list, .inl rfl, r.torn (all := hdrOf list.length L.epoch b) (k := sectorsOf b.length) (by omega) fun a ha => ?_⟩
      rcases k6.at a with e | ⟨s, m, e⟩
      · exact .inl e
      · obtain ⟨j, j1, j2, j3⟩ := puts_mem _ _ _ _ m
        rw [hgd j j1, Option.some.injEq] at j3
        exact .inr ⟨by omega, by omega, j + 1, by omega, by rw [e, j3]⟩
    · rcases k6.at B with e | ⟨s, m, e⟩
      · refine ⟨list, .inl rfl, r.torn (all := hdrOf list.length L.epoch b) (k := sectorsOf b.length) (by omega) fun a ha => ?_⟩
        have : fK x.2.kept a = fK (DiskS.keepAll (DiskS.puts (B + 1) (cutOf list.length L.epoch b).tail) D.kept) a := by
          rcases k6.at a with e2 | ⟨s, m, e2⟩
          · exact e2
          · obtain ⟨j, j1, j2, j3⟩ := puts_mem _ _ _ _ m
            simp only [List.length_singleton] at j1
            have : a = B := by omega
            rw [this]; exact e
        rw [this, f1]
        by_cases h2 : B + 1 ≤ a ∧ a < B + sectorsOf b.length
        · rw [if_pos h2]
          exact .inr ⟨by omega, by omega, a - B, by omega, rfl⟩
        · rw [if_neg h2]; exact .inl rfl
      · refine ⟨list ++ [b], .inr rfl, r.kept hb (by omega) fun a ha => ?_⟩
        obtain ⟨j, j1, j2, j3⟩ := puts_mem _ _ _ _ m
        simp only [List.length_singleton] at j1
        have j0 : j = 0 := by omega
        subst j0
        simp only [List.getElem?_cons_zero, Option.some.injEq] at j3
        rw [hB]
        by_cases h1 : a = B
        · subst h1
          rw [if_pos (by omega), e, ← j3, Nat.sub_self]
        · have : fK x.2.kept a = fK (DiskS.keepAll (DiskS.puts (B + 1) (cutOf list.length L.epoch b).tail) D.kept) a := by
            rcases k6.at a with e2 | ⟨s, m, e2⟩
            · exact e2
            · obtain ⟨j, j1, j2, j3⟩ := puts_mem _ _ _ _ m
              simp only [List.length_singleton] at j1
              omega
          rw [this, f1]
          by_cases h2 : B + 1 ≤ a ∧ a < B + sectorsOf b.length
          · rw [if_pos h2, if_pos (by omega)]
          · rw [if_neg h2, if_neg (by omega)]
end Go.Proofs.Ytbhlolmglieehaa
