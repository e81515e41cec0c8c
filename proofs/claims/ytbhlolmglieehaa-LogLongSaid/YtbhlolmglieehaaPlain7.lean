/- Logs that are written anew. -/
import Derived.Test.YtbhlolmglieehaaPlain6
set_option linter.unusedSimpArgs false
set_option linter.unusedVariables false
namespace Go.Proofs.Ytbhlolmglieehaa

theorem puts_app : ∀ (xs ys : List Bytes) (a : Nat), DiskS.puts a (xs ++ ys) = DiskS.puts a xs ++ DiskS.puts (a + xs.length) ys := by
  intro xs
  induction xs with
  | nil => intro ys a; rfl
  | cons x xs ih =>
    intro ys a
    simp only [List.cons_append, DiskS.puts, ih, List.length_cons]
    rw [show a + 1 + xs.length = a + (xs.length + 1) by omega]

theorem rw_out : ∀ (rs : List Bytes) (L : LogS) (D : DiskS), D.down = false → L.base D L.pos + total rs ≤ D.kept.length →
    ((rw_ L D rs).1 = 0 ∧ (rw_ L D rs).2.1 = { L with pos := L.pos + total rs, list := L.list ++ rs } ∧ (rw_ L D rs).2.2.down = false ∧ (rw_ L D rs).2.2.kept = D.kept ∧
      (rw_ L D rs).2.2.cache = D.cache ++ DiskS.puts (L.base D L.pos) (allSecs L.epoch L.list.length rs) ∧ (D.fate ≤ 0 → (rw_ L D rs).2.2.fate ≤ 0)) ∨
    ((rw_ L D rs).1 = 3 ∧ 0 < D.fate ∧ (rw_ L D rs).2.1.dead = true ∧ (rw_ L D rs).2.2.down = true ∧ (rw_ L D rs).2.2.cache = [] ∧ (rw_ L D rs).2.2.fate = -1 ∧
      Mix D.kept (D.cache ++ DiskS.puts (L.base D L.pos) (allSecs L.epoch L.list.length rs)) (rw_ L D rs).2.2.kept) := by
  intro rs
  induction rs with
  | nil => intro L D hd _; exact .inl ⟨rfl, by simp [rw_, total], hd, rfl, by simp [rw_, allSecs, DiskS.puts], fun h => h⟩
  | cons b r ih =>
    intro L D hd hb
    simp only [total] at hb
    have hcl := cutOf_len L.list.length L.epoch b
    have ho := DiskS.put_out (cutOf L.list.length L.epoch b) hd (L.base D L.pos) (by omega)
    simp only [rw_, allSecs, puts_app, total]
    rw [hcl]
    generalize hss : cutOf L.list.length L.epoch b = ss at *
    generalize D.put (L.base D L.pos) ss = x at *
    rcases ho with ⟨h1, h2, h3, h4, h5⟩ | ⟨h1, h2, h3, h4, h5, h6⟩
    · rw [if_pos h1]
      have hbase : LogS.base { L with pos := L.pos + sectorsOf b.length, list := L.list ++ [b] } x.2 (L.pos + sectorsOf b.length) = L.base D L.pos + sectorsOf b.length := by
        unfold LogS.base; rw [hf_eq (D := D) (D' := x.2) (by rw [h3])]; dsimp only; omega
      have := ih { L with pos := L.pos + sectorsOf b.length, list := L.list ++ [b] } x.2 h2 (by dsimp only; rw [hbase, h3]; omega)
      dsimp only at this
      rw [hbase, h3, h4] at this
      simp only [List.length_append, List.length_singleton, List.append_assoc, List.singleton_append] at this
      rcases this with ⟨g1, g2, g3, g4, g5, g6⟩ | ⟨g1, g2, g3, g4, g5, g6, g7⟩
      · exact .inl ⟨g1, by rw [g2, Nat.add_assoc], g3, g4, g5, fun h => g6 (h5 h)⟩
      · refine .inr ⟨g1, ?_, g3, g4, g5, g6, g7⟩
        rcases Int.lt_or_le 0 D.fate with q | q
        · exact q
        · have := h5 q; omega
    · rw [if_neg (by omega)]
      refine .inr ⟨h1, h2, rfl, h3, h4, h5, h6.mono fun y hy => ?_⟩
      rw [← List.append_assoc]
      exact List.mem_append_left _ hy

theorem finish_out {L : LogS} {D : DiskS} (hd : D.down = false) (hh : L.half < D.kept.length) :
    ((finish L D).1 = 0 ∧ (finish L D).2.down = false ∧ (finish L D).2.cache = [] ∧ (D.fate ≤ 0 → (finish L D).2.fate ≤ 0) ∧ (finish L D).2.kept = (DiskS.keepAll D.cache D.kept).set L.half (headSect L.epoch)) ∨
    ((finish L D).1 = 3 ∧ 0 < D.fate ∧ (finish L D).2.down = true ∧ (finish L D).2.cache = [] ∧ (finish L D).2.fate = -1 ∧
      (Mix D.kept D.cache (finish L D).2.kept ∨ Mix (DiskS.keepAll D.cache D.kept) [(L.half, headSect L.epoch)] (finish L D).2.kept)) := by
  have hk : (DiskS.keepAll D.cache D.kept).length = D.kept.length := DiskS.keepAll_len _ _
  have ho := DiskS.flush_out hd
  unfold finish
  generalize D.flush = x at *
  rcases ho with ⟨h1, h2, h3, h4, h5⟩ | ⟨h1, h2, h3, h4, h5, h6⟩
  · rw [andThen_ok h1]
    have hw := DiskS.write_out h2 (show L.half < x.2.kept.length by rw [h3, hk]; exact hh) (headSect L.epoch)
    rw [h4, List.nil_append, h3] at hw
    generalize x.2.write (L.half : Int) (headSect L.epoch) = y at *
    rcases hw with ⟨g1, g2, g3, g4, g5⟩ | ⟨g1, g2, g3, g4, g5, g6⟩
    · rw [andThen_ok g1]
      have hf := DiskS.flush_out g2
      rw [g3, g4] at hf
      generalize y.2.flush = z at *
      rcases hf with ⟨f1, f2, f3, f4, f5⟩ | ⟨f1, f2, f3, f4, f5, f6⟩
      · exact .inl ⟨f1, f2, f4, fun h => f5 (g5 (h5 h)), f3⟩
      · refine .inr ⟨f1, ?_, f3, f4, f5, .inr (by rw [g3] at f6; exact f6)⟩
        rcases Int.lt_or_le 0 D.fate with q | q
        · exact q
        · have := g5 (h5 q); omega
    · rw [andThen_bad (by omega)]
      refine .inr ⟨g1, ?_, g3, g4, g5, .inr (by rw [h3] at g6; exact g6)⟩
      rcases Int.lt_or_le 0 D.fate with q | q
      · exact q
      · have := h5 q; omega
  · rw [andThen_bad (by omega)]
    exact .inr ⟨h1, h2, h3, h4, h5, .inl h6⟩

theorem fK_set {K : List Bytes} {i : Nat} {s : Bytes} (h : i < K.length) (a : Nat) : fK (K.set i s) a = if a = i then s else fK K a := by
  unfold fK
  rw [List.getD_eq_getElem?_getD, List.getElem?_set]
  by_cases e : a = i
  · subst e; rw [if_pos rfl, if_pos h, if_pos rfl]; rfl
  · rw [if_neg (fun x => e x.symm), if_neg e, List.getD_eq_getElem?_getD]

theorem rewrite_out {L : LogS} {D : DiskS} (ok : L.Ok D) (hdead : L.dead = false) (hd : D.down = false) (hc : D.cache = []) {bss : List Bytes} (h4 : ∀ b ∈ bss, b.length ≤ 4096) (hroom : total bss ≤ D.hf) (ht : L.top + 1 ≤ 2147483648)
    (htops : ∀ a, 2 ≤ a → a < D.kept.length → (fK D.kept a)[0]? = some 2 → ep (fK D.kept a) ≤ L.top) (hheads : ∀ a, a < 2 → (goodOf (fK D.kept a)).2 = true → (goodOf (fK D.kept a)).1 ≤ L.top) :
    ((L.rewrite D bss).1 = 0 ∧ Held (L.rewrite D bss).2.1 (L.rewrite D bss).2.2 bss ∧ (D.fate ≤ 0 → (L.rewrite D bss).2.2.fate ≤ 0) ∧ (L.rewrite D bss).2.2.kept.length = D.kept.length ∧ (L.rewrite D bss).2.1.top = L.top + 1) ∨
    ((L.rewrite D bss).1 = 3 ∧ 0 < D.fate ∧ (L.rewrite D bss).2.1.dead = true ∧ (L.rewrite D bss).2.2.Ok ∧ (L.rewrite D bss).2.2.down = true ∧ (L.rewrite D bss).2.2.cache = [] ∧ (L.rewrite D bss).2.2.fate = -1 ∧ (L.rewrite D bss).2.2.kept.length = D.kept.length ∧
      (Rep (fK (L.rewrite D bss).2.2.kept) D.kept.length (L.top + 1) (1 - L.half) bss (L.top + 1) ∨
       ∀ a, a < D.kept.length → fK (L.rewrite D bss).2.2.kept a = fK D.kept a ∨ (2 + (1 - L.half) * ((D.kept.length - 2) / 2) ≤ a ∧ a < 2 + (1 - L.half) * ((D.kept.length - 2) / 2) + total bss ∧ fK (L.rewrite D bss).2.2.kept a ∈ allSecs (L.top + 1) 0 bss))) := by
  have hrok := LogS.rewrite_ok ok (by omega) (by rw [hc]; simp) bss
  have h6 := ok.size
  have hsz := ok.disk.size
  have hhf : D.hf = (D.kept.length - 2) / 2 := rfl
  have hh1 : 1 - L.half ≤ 1 := by omega
  have hm : (1 - L.half) * ((D.kept.length - 2) / 2) ≤ (D.kept.length - 2) / 2 := by have := Nat.mul_le_mul_right ((D.kept.length - 2) / 2) hh1; omega
  have hbase : L.anew.base D L.anew.pos = 2 + (1 - L.half) * ((D.kept.length - 2) / 2) := by unfold LogS.base LogS.anew; rw [hhf]; rfl
  have hrw := rw_out bss L.anew D hd (by rw [hbase]; omega)
  have hfin := fun D1 => @finish_out (rw_ L.anew D bss).2.1 D1
  have hno : ¬ ∃ b ∈ bss, 4096 < b.length := by rintro ⟨b, hb, h⟩; have := h4 b hb; omega
  have hlen : ∀ a, a < D.kept.length → (fK D.kept a).length = 64 := fun a ha => by
    unfold fK; rw [List.getD_eq_getElem?_getD, List.getElem?_eq_getElem ha]; exact ok.disk.kept _ (List.getElem_mem _)
  unfold LogS.rewrite at hrok ⊢
  rw [if_neg (by simp [hdead]), if_neg hno, if_neg (by omega)] at hrok ⊢
  rw [hbase, hc, List.nil_append] at hrw
  rw [show L.anew.epoch = L.top + 1 from rfl, show L.anew.list.length = 0 from rfl] at hrw
  generalize hB : 2 + (1 - L.half) * ((D.kept.length - 2) / 2) = B at *
  have hal := allSecs_len (L.top + 1) bss 0
  have hin : ∀ j, j < total bss → (allSecs (L.top + 1) 0 bss).getD j [] ∈ allSecs (L.top + 1) 0 bss := fun j hj => by
    rw [List.getD_eq_getElem?_getD, List.getElem?_eq_getElem (by omega)]; exact List.getElem_mem _
  have torn : ∀ K', Mix D.kept (DiskS.puts B (allSecs (L.top + 1) 0 bss)) K' → ∀ a, a < D.kept.length → fK K' a = fK D.kept a ∨ (B ≤ a ∧ a < B + total bss ∧ fK K' a ∈ allSecs (L.top + 1) 0 bss) := by
    intro K' hmix a ha
    rcases hmix.at a with e | ⟨s, m, e⟩
    · exact .inl e
    · obtain ⟨j, j1, j2, j3⟩ := puts_mem _ _ _ _ m
      exact .inr ⟨by omega, by omega, by rw [e]; exact List.mem_of_getElem? j3⟩
  generalize rw_ L.anew D bss = x at *
  unfold endRw at hrok ⊢
  rcases hrw with ⟨r1, r2, r3, r4, r5, r6⟩ | ⟨r1, r2, r3, r4, r5, r6, r7⟩
  · rw [if_pos r1] at hrok ⊢
    have hxh : x.2.1.half = 1 - L.half ∧ x.2.1.epoch = L.top + 1 ∧ x.2.1.dead = false ∧ x.2.1.list = bss ∧ x.2.1.pos = total bss ∧ x.2.1.top = L.top + 1 := by
      rw [r2]; exact ⟨rfl, rfl, hdead, rfl, by simp [LogS.anew], rfl⟩
    obtain ⟨x1, x2, x3, x4, x5, x6⟩ := hxh
    have hf := hfin x.2.2 r3 (by rw [x1, r4]; omega)
    rw [r4, r5, x1, x2] at hf
    have hkl : (DiskS.keepAll (DiskS.puts B (allSecs (L.top + 1) 0 bss)) D.kept).length = D.kept.length := DiskS.keepAll_len _ _
    have fa : ∀ i, fK (DiskS.keepAll (DiskS.puts B (allSecs (L.top + 1) 0 bss)) D.kept) i = if B ≤ i ∧ i < B + total bss then (allSecs (L.top + 1) 0 bss).getD (i - B) [] else fK D.kept i := by
      intro i; rw [fK_keepAll _ _ _ _ (by omega), hal]
    have new : ∀ K', (∀ a, a < D.kept.length → fK K' a = if a = 1 - L.half then headSect (L.top + 1) else fK (DiskS.keepAll (DiskS.puts B (allSecs (L.top + 1) 0 bss)) D.kept) a) → Rep (fK K') D.kept.length (L.top + 1) (1 - L.half) bss (L.top + 1) := by
      intro K' hK
      refine Rep.anew (f := fK D.kept) ⟨h6, hsz.2⟩ hh1 ht h4 (by omega) hlen htops hheads fun a ha => ?_
      rw [hK a ha, fa, hB]
      by_cases e : a = 1 - L.half
      · rw [if_pos e, if_neg (by omega), if_pos e]
      · rw [if_neg e, if_neg e]
    rcases hf with ⟨g1, g2, g3, g5, g4⟩ | ⟨g1, g2, g3, g4, g5, g6⟩
    · refine .inl ⟨g1, ⟨hrok.1, x4, x5, by dsimp only; rw [x3, g1]; rfl, g2, g3, ?_⟩, fun h => g5 (r6 h), hrok.2.1.size, x6⟩
      dsimp only
      rw [hrok.2.1.size, x2, x1, x6]
      exact new _ fun a ha => by rw [g4, fK_set (by rw [hkl]; omega)]
    · refine .inr ⟨g1, ?_, by dsimp only; rw [g1, x3]; rfl, hrok.2.1.ok, g3, g4, g5, hrok.2.1.size, ?_⟩
      · rcases Int.lt_or_le 0 D.fate with q | q
        · exact q
        · have := r6 q; omega
      dsimp only
      rcases g6 with g6 | g6
      · exact .inr (torn _ g6)
      · rcases g6.at (1 - L.half) with e | ⟨s, m, e⟩
        · refine .inr fun a ha => ?_
          have : fK (finish x.2.1 x.2.2).2.kept a = fK (DiskS.keepAll (DiskS.puts B (allSecs (L.top + 1) 0 bss)) D.kept) a := by
            rcases g6.at a with e2 | ⟨s, m, e2⟩
            · exact e2
            · rw [List.mem_singleton, Prod.mk.injEq] at m
              rw [m.1]; exact e
          rw [this, fa]
          by_cases hc : B ≤ a ∧ a < B + total bss
          · rw [if_pos hc]; exact .inr ⟨hc.1, hc.2, hin _ (by omega)⟩
          · rw [if_neg hc]; exact .inl rfl
        · refine .inl (new _ fun a ha => ?_)
          rw [List.mem_singleton, Prod.mk.injEq] at m
          by_cases h1 : a = 1 - L.half
          · rw [if_pos h1, h1, e, m.2]
          · rw [if_neg h1]
            rcases g6.at a with e2 | ⟨s, m, e2⟩
            · exact e2
            · rw [List.mem_singleton, Prod.mk.injEq] at m
              exact absurd m.1 h1
  · rw [if_neg (by omega)] at hrok ⊢
    exact .inr ⟨r1, r2, r3, hrok.2.1.ok, r4, r5, r6, hrok.2.1.size, .inr (torn _ r7)⟩
end Go.Proofs.Ytbhlolmglieehaa
