/- What the log's plain functions keep. -/
import Derived.Test.YtbhlolmglieehaaLog11
set_option linter.unusedSimpArgs false
set_option linter.unusedVariables false
namespace Go.Proofs.Ytbhlolmglieehaa

theorem andThen_spec {x : Int × DiskS} {f : DiskS → Int × DiskS} {p : DiskS → Prop} (h1 : p x.2) (h2 : ∀ D, p D → p (f D).2) : p (andThen x f).2 := by
  unfold andThen; split
  · exact h2 _ h1
  · exact h1

/-- as it was, but for at most so many writes more -/
structure Near (D : DiskS) (n : Nat) (D' : DiskS) : Prop where
  ok : D'.Ok
  size : D'.kept.length = D.kept.length
  cache : D'.cache.length ≤ D.cache.length + n

theorem Near.refl {D : DiskS} (h : D.Ok) : Near D 0 D := ⟨h, rfl, Nat.le_refl _⟩
theorem Near.flush {D D' : DiskS} {n : Nat} (h : Near D n D') : Near D n D'.flush.2 :=
  ⟨h.ok.flush, by rw [DiskS.flush_kept_len]; exact h.size, Nat.le_trans (DiskS.flush_cache D') h.cache⟩
theorem Near.mono {D D' : DiskS} {n m : Nat} (h : Near D n D') (hm : n ≤ m) : Near D m D' := ⟨h.ok, h.size, by have := h.cache; omega⟩
theorem Near.put {D D' : DiskS} {n : Nat} (h : Near D n D') {ss : List Bytes} (h64 : ∀ s ∈ ss, s.length = 64) (hc : D.cache.length + n + ss.length ≤ 1099511627776) (a : Nat) : Near D (n + ss.length) (D'.put a ss).2 := by
  have hh := h.cache
  obtain ⟨h1, h2, h3⟩ := DiskS.put_spec ss D' a h.ok h64 (by omega)
  exact ⟨h1, by rw [h2]; exact h.size, by omega⟩
theorem Near.write {D D' : DiskS} {n : Nat} (h : Near D n D') {s : Bytes} (hs : s.length = 64) (hc : D.cache.length + n + 1 ≤ 1099511627776) (a : Int) : Near D (n + 1) (D'.write a s).2 := by
  have hh := h.cache
  have := DiskS.write_cache D' a s
  exact ⟨h.ok.write (by omega) a hs, by rw [DiskS.write_kept_len]; exact h.size, by omega⟩

theorem LogS.keep_near (L : LogS) {D : DiskS} (h : D.Ok) {ss : List Bytes} (h64 : ∀ s ∈ ss, s.length = 64) (hn : 1 ≤ ss.length) (hc : D.cache.length + ss.length ≤ 1099511627776) : Near D ss.length (L.keep D ss).2 := by
  unfold LogS.keep
  have t1 : (ss.take 1).length = 1 := by simp; omega
  have step : ∀ D', Near D (ss.length - 1) D' → Near D ss.length (andThen (D'.put (L.base D' L.pos) (ss.take 1)) DiskS.flush).2 := by
    intro D' h'
    refine andThen_spec (p := fun D' => Near D ss.length D') ?_ (fun D' h => h.flush)
    have := h'.put (ss := ss.take 1) (fun s hs => h64 s (List.mem_of_mem_take hs)) (by omega) (L.base D' L.pos)
    exact this.mono (by omega)
  have first : Near D (ss.length - 1) (if 1 < ss.length then andThen (D.put (L.base D (L.pos + 1)) ss.tail) DiskS.flush else (0, D)).2 := by
    split
    · refine andThen_spec (p := fun D' => Near D (ss.length - 1) D') ?_ (fun D' h => h.flush)
      have := (Near.refl h).put (ss := ss.tail) (fun s hs => h64 s (List.mem_of_mem_tail hs)) (by simp; omega) (L.base D (L.pos + 1))
      rw [List.length_tail] at this
      exact this.mono (by omega)
    · exact (Near.refl h).mono (by omega)
  generalize (if 1 < ss.length then andThen (D.put (L.base D (L.pos + 1)) ss.tail) DiskS.flush else (0, D)) = x at *
  unfold andThen
  split
  · exact step _ first
  · exact first.mono (by omega)

theorem Near.hf {D D' : DiskS} {n : Nat} (h : Near D n D') : D'.hf = D.hf := hf_eq h.size

theorem LogS.append_ok {L : LogS} {D : DiskS} (ok : L.Ok D) (hc : D.cache.length + 5000 ≤ 1099511627776) (b : Bytes) :
    (L.append D b).2.1.Ok (L.append D b).2.2 ∧ Near D 66 (L.append D b).2.2 := by
  unfold LogS.append
  split
  · exact ⟨ok, (Near.refl ok.disk).mono (by omega)⟩
  · split
    · exact ⟨ok, (Near.refl ok.disk).mono (by omega)⟩
    · split
      · exact ⟨ok, (Near.refl ok.disk).mono (by omega)⟩
      · rename_i _ h4 h5
        have hs := sectors_le (show b.length ≤ 4096 by omega)
        have hcl := cutOf_len L.list.length L.epoch b
        have hk := L.keep_near ok.disk (cutOf_all L.list.length L.epoch b) (by omega) (by omega)
        have hk' := hk.mono (show (cutOf L.list.length L.epoch b).length ≤ 66 by omega)
        have hlist := ok.list
        have hpos := ok.pos
        split
        · exact ⟨⟨ok.half, by rw [hk.hf]; dsimp only; omega, ok.epoch, ok.top, by simp only [List.length_append, List.length_singleton]; omega, hk.ok, by rw [hk.size]; exact ok.size⟩, hk'⟩
        · exact ⟨⟨ok.half, by rw [hk.hf]; exact hpos, ok.epoch, ok.top, ok.list, hk.ok, by rw [hk.size]; exact ok.size⟩, hk'⟩

theorem rw_near : ∀ (bss : List Bytes) (L : LogS) (D0 D : DiskS) (n : Nat), Near D0 n D → (∀ b ∈ bss, b.length ≤ 4096) → L.half ≤ 1 → L.list.length ≤ L.pos → L.pos + total bss ≤ D0.hf → D0.cache.length + n + total bss ≤ 1099511627776 →
    Near D0 (n + total bss) (rw_ L D bss).2.2 ∧ (rw_ L D bss).2.1.half = L.half ∧ (rw_ L D bss).2.1.epoch = L.epoch ∧ (rw_ L D bss).2.1.top = L.top ∧ (rw_ L D bss).2.1.pos ≤ D0.hf ∧ (rw_ L D bss).2.1.list.length ≤ (rw_ L D bss).2.1.pos := by
  intro bss
  induction bss with
  | nil => intro L D0 D n h _ _ hl hp _; exact ⟨h, rfl, rfl, rfl, by simpa [total, rw_] using hp, hl⟩
  | cons b r ih =>
    intro L D0 D n h h4 hh hl hp hc
    simp only [total] at hp hc
    have hs := sectors_le (h4 b (.head _))
    have hcl := cutOf_len L.list.length L.epoch b
    have hput := h.put (cutOf_all L.list.length L.epoch b) (by omega) (L.base D L.pos)
    simp only [rw_]
    split
    · obtain ⟨h1, h2, h3, h5, h6, h7⟩ := ih { L with pos := L.pos + sectorsOf b.length, list := L.list ++ [b] } D0 _ _ hput (fun x hx => h4 x (.tail _ hx)) hh (by simp only [List.length_append, List.length_singleton]; omega) (by dsimp only; omega) (by omega)
      exact ⟨h1.mono (by simp only [total]; omega), h2, h3, h5, h6, h7⟩
    · exact ⟨hput.mono (by simp only [total]; omega), rfl, rfl, rfl, by dsimp only; omega, hl⟩

theorem LogS.rewrite_ok {L : LogS} {D : DiskS} (ok : L.Ok D) (ht : L.top ≤ 4294967200) (hc : D.cache.length + 5000 ≤ 1099511627776) (bss : List Bytes) :
    (L.rewrite D bss).2.1.Ok (L.rewrite D bss).2.2 ∧ Near D 2048 (L.rewrite D bss).2.2 ∧ (L.rewrite D bss).2.1.top ≤ L.top + 1 := by
  have hhf := hf_le ok.disk
  unfold LogS.rewrite
  split
  · exact ⟨ok, (Near.refl ok.disk).mono (by omega), by dsimp only; omega⟩
  · split
    · exact ⟨ok, (Near.refl ok.disk).mono (by omega), by dsimp only; omega⟩
    · split
      · exact ⟨ok, (Near.refl ok.disk).mono (by omega), by dsimp only; omega⟩
      · rename_i _ h4 h5
        have h4' : ∀ b ∈ bss, b.length ≤ 4096 := fun b hb => by
          rcases Nat.lt_or_ge 4096 b.length with x | x
          · exact absurd ⟨b, hb, x⟩ h4
          · exact x
        obtain ⟨h1, h2, h3, h6, h7, h8⟩ := rw_near bss L.anew D D 0 (Near.refl ok.disk) h4' (by simp only [LogS.anew]; omega) (by simp [LogS.anew]) (by simp only [LogS.anew]; omega) (by omega)
        rw [Nat.zero_add] at h1
        unfold endRw
        generalize rw_ L.anew D bss = x at *
        have ha : L.anew.half ≤ 1 ∧ L.anew.epoch = L.top + 1 ∧ L.anew.top = L.top + 1 := ⟨by simp only [LogS.anew]; omega, rfl, rfl⟩
        split
        · have hf : Near D 2048 (finish x.2.1 x.2.2).2 := by
            have h9 := h1.flush
            have h10 := (h9.write (headSect_len x.2.1.epoch) (by omega) (x.2.1.half : Int)).mono (show total bss + 1 ≤ 2048 by omega)
            unfold finish andThen
            split
            · dsimp only
              split
              · exact h10.flush
              · exact h10
            · exact h9.mono (by omega)
          exact ⟨⟨by dsimp only; omega, by rw [hf.hf]; exact h7, by dsimp only; omega, by dsimp only; omega, h8, hf.ok, by rw [hf.size]; exact ok.size⟩, hf, by dsimp only; omega⟩
        · have hf := h1.mono (show total bss ≤ 2048 by omega)
          exact ⟨⟨by omega, by rw [hf.hf]; exact h7, by omega, by omega, h8, hf.ok, by rw [hf.size]; exact ok.size⟩, hf, by omega⟩
end Go.Proofs.Ytbhlolmglieehaa
