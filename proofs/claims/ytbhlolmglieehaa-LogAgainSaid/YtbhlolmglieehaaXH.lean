/- What the log's plain functions keep. -/
import Derived.Test.YtbhlolmglieehaaXG
set_option linter.unusedSimpArgs false
set_option linter.unusedVariables false
namespace Go.Proofs.Ytbhlolmglieehaa

theorem andThen_spec {x : Int × DiskS} {f : DiskS → Int × DiskS} {p : DiskS → Prop} (h1 : p x.2) (h2 : ∀ D, p D → p (f D).2) : p (andThen x f).2 := by
  unfold andThen; split
  · exact h2 _ h1
  · exact h1

/-- as it was, but for at most so many writes more -/
structure Near (D : DiskS) (n : Nat) (D' : DiskS) : Prop where
  ok : D'.Ok
  size : D'.kept.length = D.kept.length
  cache : D'.cache.length ≤ D.cache.length + n

theorem Near.refl {D : DiskS} (h : D.Ok) : Near D 0 D := ⟨h, rfl, Nat.le_refl _⟩
theorem Near.flush {D D' : DiskS} {n : Nat} (h : Near D n D') : Near D n D'.flush.2 :=
  ⟨h.ok.flush, by rw [DiskS.flush_kept_len]; exact h.size, Nat.le_trans (DiskS.flush_cache D') h.cache⟩
theorem Near.mono {D D' : DiskS} {n m : Nat} (h : Near D n D') (hm : n ≤ m) : Near D m D' := ⟨h.ok, h.size, by have := h.cache; omega⟩
theorem Near.put {D D' : DiskS} {n : Nat} (h : Near D n D') {ss : List Bytes} (h64 : ∀ s ∈ ss, s.length = 64) (hc : D.cache.length + n + ss.length ≤ 1099511627776) (a : Nat) : Near D (n + ss.length) (D'.put a ss).2 := by
  have hh := h.cache
  obtain ⟨h1, h2, h3⟩ := DiskS.put_spec ss D' a h.ok h64 (by omega)
  exact ⟨h1, by rw [h2]; exact h.size, by omega⟩
theorem Near.write {D D' : DiskS} {n : Nat} (h : Near D n D') {s : Bytes} (hs : s.length = 64) (hc : D.cache.length + n + 1 ≤ 1099511627776) (a : Int) : Near D (n + 1) (D'.write a s).2 := by
  have hh := h.cache
  have := DiskS.write_cache D' a s
  exact ⟨h.ok.write (by omega) a hs, by rw [DiskS.write_kept_len]; exact h.size, by omega⟩

theorem LogS.keep_near (L : LogS) {D : DiskS} (h : D.Ok) {ss : List Bytes} (h64 : ∀ s ∈ ss, s.length = 64) (hn : 1 ≤ ss.length) (hc : D.cache.length + ss.length ≤ 1099511627776) : Near D ss.length (L.keep D ss).2 := by
  unfold LogS.keep
  have t1 : (ss.take 1).length = 1 := by simp; omega
  have step : ∀ D', Near D (ss.length - 1) D' → Near D ss.length (andThen (D'.put (L.base D' L.pos) (ss.take 1)) DiskS.flush).2 := by
    intro D' h'
    refine andThen_spec (p := fun D' => Near D ss.length D') ?_ (fun D' h => h.flush)
    have := h'.put (ss := ss.take 1) (fun s hs => h64 s (List.mem_of_mem_take hs)) (by omega) (L.base D' L.pos)
    exact this.mono (by omega)
  have first : Near D (ss.length - 1) (if 1 < ss.length then andThen (D.put (L.base D (L.pos + 1)) ss.tail) DiskS.flush else (0, D)).2 := by
    split
    · refine andThen_spec (p := fun D' => Near D (ss.length - 1) D') ?_ (fun D' h => h.flush)
      have := (Near.refl h).put (ss := ss.tail) (fun s hs => h64 s (List.mem_of_mem_tail hs)) (by simp; omega) (L.base D (L.pos + 1))
      rw [List.length_tail] at this
      exact this.mono (by omega)
    · exact (Near.refl h).mono (by omega)
  generalize (if 1 < ss.length then andThen (D.put (L.base D (L.pos + 1)) ss.tail) DiskS.flush else (0, D)) = x at *
  unfold andThen
  split
  · exact step _ first
  · exact first.mono (by omega)

theorem Near.hf {D D' : DiskS} {n : Nat} (h : Near D n D') : D'.hf = D.hf := hf_eq h.size

theorem LogS.append_ok {L : LogS} {D : DiskS} (ok : L.Ok D) (hc : D.cache.length + 5000 ≤ 1099511627776) (b : Bytes) :
    (L.append D b).2.1.Ok (L.append D b).2.2 ∧ Near D 66 (L.append D b).2.2 := by
  unfold LogS.append
  split
  · exact ⟨ok, (Near.refl ok.disk).mono (by omega)⟩
  · split
    · exact ⟨ok, (Near.refl ok.disk).mono (by omega)⟩
    · split
      · exact ⟨ok, (Near.refl ok.disk).mono (by omega)⟩
      · rename_i _ h4 h5
        have hs := sectors_le (show b.length ≤ 4096 by omega)
        have hcl := cutOf_len L.list.length L.epoch b
        have hk := L.keep_near ok.disk (cutOf_all L.list.length L.epoch b) (by omega) (by omega)
        have hk' := hk.mono (show (cutOf L.list.length L.epoch b).length ≤ 66 by omega)
        have hlist := ok.list
        have hpos := ok.pos
        split
        · exact ⟨⟨ok.half, by rw [hk.hf]; dsimp only; omega, ok.epoch, ok.top, by simp only [List.length_append, List.length_singleton]; omega, hk.ok, by rw [hk.size]; exact ok.size⟩, hk'⟩
        · exact ⟨⟨ok.half, by rw [hk.hf]; exact hpos, ok.epoch, ok.top, ok.list, hk.ok, by rw [hk.size]; exact ok.size⟩, hk'⟩

theorem rw_near : ∀ (bss : List Bytes) (L : LogS) (D0 D : DiskS) (n : Nat), Near D0 n D → (∀ b ∈ bss, b.length ≤ 4096) → L.half ≤ 1 → L.list.length ≤ L.pos → L.pos + total bss ≤ D0.hf → D0.cache.length + n + total bss ≤ 1099511627776 →
    Near D0 (n + total bss) (rw_ L D bss).2.2 ∧ (rw_ L D bss).2.1.half = L.half ∧ (rw_ L D bss).2.1.epoch = L.epoch ∧ (rw_ L D bss).2.1.top = L.top ∧ (rw_ L D bss).2.1.pos ≤ D0.hf ∧ (rw_ L D bss).2.1.list.length ≤ (rw_ L D bss).2.1.pos := by
  intro bss
  induction bss with
  | nil => intro L D0 D n h _ _ hl hp _; exact ⟨h, rfl, rfl, rfl, by simpa [total, rw_] using hp, hl⟩
  | cons b r ih =>
    intro L D0 D n h h4 hh hl hp hc
    simp only [total] at hp hc
    have hs := sectors_le (h4 b (.head _))
    have hcl := cutOf_len L.list.length L.epoch b
    have hput := h.put (cutOf_all L.list.length L.epoch b) (by omega) (L.base D L.pos)
    simp only [rw_]
    split
    · obtain ⟨h1, h2, h3, h5, h6, h7⟩ := ih { L with pos := L.pos + sectorsOf b.length, list := L.list ++ [b] } D0 _ _ hput (fun x hx => h4 x (.tail _ hx)) hh (by simp only [List.length_append, List.length_singleton]; omega) (by dsimp only; omega) (by omega)
      exact ⟨h1.mono (by simp only [total]; omega), h2, h3, h5, h6, h7⟩
    · exact ⟨hput.mono (by simp only [total]; omega), rfl, rfl, rfl, by dsimp only; omega, hl⟩

theorem LogS.rewrite_ok {L : LogS} {D : DiskS} (ok : L.Ok D) (ht : L.top ≤ 4294967200) (hc : D.cache.length + 5000 ≤ 1099511627776) (bss : List Bytes) :
    (L.rewrite D bss).2.1.Ok (L.rewrite D bss).2.2 ∧ Near D 2048 (L.rewrite D bss).2.2 ∧ (L.rewrite D bss).2.1.top ≤ L.top + 1 := by
  have hhf := hf_le ok.disk
  unfold LogS.rewrite
  split
  · exact ⟨ok, (Near.refl ok.disk).mono (by omega), by dsimp only; omega⟩
  · split
    · exact ⟨ok, (Near.refl ok.disk).mono (by omega), by dsimp only; omega⟩
    · split
      · exact ⟨ok, (Near.refl ok.disk).mono (by omega), by dsimp only; omega⟩
      · rename_i _ h4 h5
        have h4' : ∀ b ∈ bss, b.length ≤ 4096 := fun b hb => by
          rcases Nat.lt_or_ge 4096 b.length with x | x
          · exact absurd ⟨b, hb, x⟩ h4
          · exact x
        obtain ⟨h1, h2, h3, h6, h7, h8⟩ := rw_near bss L.anew D D 0 (Near.refl ok.disk) h4' (by simp only [LogS.anew]; omega) (by simp [LogS.anew]) (by simp only [LogS.anew]; omega) (by omega)
        rw [Nat.zero_add] at h1
        unfold endRw
        generalize rw_ L.anew D bss = x at *
        have ha : L.anew.half ≤ 1 ∧ L.anew.epoch = L.top + 1 ∧ L.anew.top = L.top + 1 := ⟨by simp only [LogS.anew]; omega, rfl, rfl⟩
        split
        · have hf : Near D 2048 (finish x.2.1 x.2.2).2 := by
            have h9 := h1.flush
            have h10 := (h9.write (headSect_len x.2.1.epoch) (by omega) (x.2.1.half : Int)).mono (show total bss + 1 ≤ 2048 by omega)
            unfold finish andThen
            split
            · dsimp only
              split
              · exact h10.flush
              · exact h10
            · exact h9.mono (by omega)
          exact ⟨⟨by dsimp only; omega, by rw [hf.hf]; exact h7, by dsimp only; omega, by dsimp only; omega, h8, hf.ok, by rw [hf.size]; exact ok.size⟩, hf, by dsimp only; omega⟩
        · have hf := h1.mono (show total bss ≤ 2048 by omega)
          exact ⟨⟨by omega, by rw [hf.hf]; exact h7, by omega, by omega, h8, hf.ok, by rw [hf.size]; exact ok.size⟩, hf, by omega⟩
end Go.Proofs.Ytbhlolmglieehaa

/- What becomes of a disk on which is written, whether the power stays or goes. -/
set_option linter.unusedSimpArgs false
set_option linter.unusedVariables false
namespace Go.Proofs.Ytbhlolmglieehaa

theorem andThen_ok {x : Int × DiskS} {f : DiskS → Int × DiskS} (h : x.1 = 0) : andThen x f = f x.2 := by unfold andThen; rw [if_pos h]
theorem andThen_bad {x : Int × DiskS} {f : DiskS → Int × DiskS} (h : x.1 ≠ 0) : andThen x f = x := by unfold andThen; rw [if_neg h]

/-- each place as it was, or as one of the writes says -/
def Mix (K : List Bytes) (C : List (Nat × Bytes)) (K' : List Bytes) : Prop := K'.length = K.length ∧ ∀ a, K'[a]? = K[a]? ∨ ∃ s, (a, s) ∈ C ∧ K'[a]? = some s

theorem Mix.mono {K K' : List Bytes} {C C' : List (Nat × Bytes)} (h : Mix K C K') (e : ∀ x ∈ C, x ∈ C') : Mix K C' K' :=
  ⟨h.1, fun a => (h.2 a).imp id fun ⟨s, m, x⟩ => ⟨s, e _ m, x⟩⟩
theorem Mix.refl (K : List Bytes) (C : List (Nat × Bytes)) : Mix K C K := ⟨rfl, fun _ => .inl rfl⟩

namespace DiskS
theorem keepSome_mix (keeps : Nat) : ∀ (C : List (Nat × Bytes)) (i : Nat) (K : List Bytes), Mix K C (keepSome keeps i C K) := by
  intro C
  induction C with
  | nil => intro i K; exact Mix.refl K []
  | cons x C ih =>
    intro i K
    obtain ⟨a, s⟩ := x
    simp only [keepSome]
    have h := ih (i + 1) (if keeps.testBit (i % 64) = true then K.set a s else K)
    refine ⟨by rw [keepSome_len]; split <;> simp, fun b => ?_⟩
    rcases h.2 b with h1 | ⟨t, m, h1⟩
    · rw [h1]
      split
      · rw [List.getElem?_set]
        split
        · rename_i _ hab
          subst hab
          split
          · exact .inr ⟨s, .head _, rfl⟩
          · rename_i hlt
            left
            rw [List.getElem?_eq_none (by omega)]
        · exact .inl rfl
      · exact .inl rfl
    · exact .inr ⟨t, .tail _ m, h1⟩

/-- the power stays, or goes with these writes under way -/
def Out (D : DiskS) (K : List Bytes) (C C' : List (Nat × Bytes)) (x : Int × DiskS) : Prop :=
  (x.1 = 0 ∧ x.2.down = false ∧ x.2.kept = K ∧ x.2.cache = C' ∧ (D.fate ≤ 0 → x.2.fate ≤ 0)) ∨ (x.1 = 3 ∧ 0 < D.fate ∧ x.2.down = true ∧ x.2.cache = [] ∧ x.2.fate = -1 ∧ Mix D.kept C x.2.kept)

theorem step_out (D : DiskS) : (D.step.1 = true ∧ D.step.2.down = D.down ∧ D.step.2.kept = D.kept ∧ D.step.2.cache = D.cache ∧ (D.fate ≤ 0 → D.step.2.fate ≤ 0)) ∨
    (D.step.1 = false ∧ 0 < D.fate ∧ D.step.2.down = true ∧ D.step.2.cache = [] ∧ D.step.2.fate = -1 ∧ Mix D.kept D.cache D.step.2.kept) := by
  unfold DiskS.step
  split
  · split
    · exact .inr ⟨rfl, by assumption, rfl, rfl, rfl, keepSome_mix _ _ _ _⟩
    · exact .inl ⟨rfl, rfl, rfl, rfl, fun h => by dsimp only; omega⟩
  · exact .inl ⟨rfl, rfl, rfl, rfl, fun h => h⟩

theorem write_out {D : DiskS} (hd : D.down = false) {a : Nat} (ha : a < D.kept.length) (s : Bytes) : Out D D.kept (D.cache ++ [(a, s)]) (D.cache ++ [(a, s)]) (D.write a s) := by
  unfold DiskS.write
  rw [if_neg (by simp [hd]), if_neg (by omega)]
  have h := step_out { D with cache := D.cache ++ [((a : Int).toNat, s)] }
  simp only [Int.toNat_natCast] at h ⊢
  rcases h with ⟨h1, h2, h3, h4, h5⟩ | ⟨h1, h2, h3, h4, h5, h6⟩
  · exact .inl ⟨by simp [h1], by simpa [hd] using h2, h3, h4, h5⟩
  · exact .inr ⟨by simp [h1], h2, h3, h4, h5, h6⟩

theorem flush_out {D : DiskS} (hd : D.down = false) : Out D (keepAll D.cache D.kept) D.cache [] D.flush := by
  unfold DiskS.flush
  rw [if_neg (by simp [hd])]
  have h := step_out D
  dsimp only
  generalize D.step = x at *
  rcases h with ⟨h1, h2, h3, h4, h5⟩ | ⟨h1, h2, h3, h4, h5, h6⟩
  · rw [if_pos h1]
    exact .inl ⟨rfl, by dsimp only; rw [h2, hd], by dsimp only; rw [h3, h4], rfl, h5⟩
  · rw [if_neg (by simp [h1])]
    exact .inr ⟨rfl, h2, h3, h4, h5, h6⟩

/-- writes one behind the other, from a place on -/
def puts (a : Nat) : List Bytes → List (Nat × Bytes)
  | [] => []
  | s :: r => (a, s) :: puts (a + 1) r

theorem put_out : ∀ (ss : List Bytes) {D : DiskS} (_ : D.down = false) (a : Nat), a + ss.length ≤ D.kept.length → Out D D.kept (D.cache ++ puts a ss) (D.cache ++ puts a ss) (D.put a ss) := by
  intro ss
  induction ss with
  | nil => intro D h a _; exact .inl ⟨rfl, h, rfl, by simp [put, puts], fun h => h⟩
  | cons s r ih =>
    intro D h a ha
    simp only [List.length_cons] at ha
    simp only [put, puts]
    have hw := write_out h (show a < D.kept.length by omega) s
    generalize D.write a s = x at *
    rcases hw with ⟨h1, h2, h3, h4, h5⟩ | ⟨h1, h2, h3, h4, h5, h6⟩
    · rw [if_pos h1]
      have := ih h2 (a + 1) (by rw [h3]; omega)
      rw [h3, h4, List.append_assoc, List.singleton_append] at this
      rcases this with ⟨g1, g2, g3, g4, g5⟩ | ⟨g1, g2, g3, g4, g5, g6⟩
      · exact .inl ⟨g1, g2, g3, g4, fun h => g5 (h5 h)⟩
      · refine .inr ⟨g1, ?_, g3, g4, g5, by rw [h3] at g6; exact g6⟩
        rcases Int.lt_or_le 0 D.fate with q | q
        · exact q
        · have := h5 q; omega
    · rw [if_neg (by omega)]
      refine .inr ⟨h1, h2, h3, h4, h5, h6.mono fun y hy => ?_⟩
      rcases List.mem_append.1 hy with hy | hy
      · exact List.mem_append_left _ hy
      · rw [List.mem_singleton] at hy; subst hy; exact List.mem_append_right _ (.head _)

theorem putFlush_out {D : DiskS} (hd : D.down = false) (hc : D.cache = []) (ss : List Bytes) (a : Nat) (ha : a + ss.length ≤ D.kept.length) :
    Out D (keepAll (puts a ss) D.kept) (puts a ss) [] (andThen (D.put a ss) flush) := by
  have h := put_out ss hd a ha
  rw [hc, List.nil_append] at h
  unfold andThen
  generalize D.put a ss = x at *
  rcases h with ⟨h1, h2, h3, h4, h5⟩ | ⟨h1, h2, h3, h4, h5, h6⟩
  · rw [if_pos h1]
    have := flush_out h2
    rw [h3, h4] at this
    rcases this with ⟨g1, g2, g3, g4, g5⟩ | ⟨g1, g2, g3, g4, g5, g6⟩
    · exact .inl ⟨g1, g2, g3, g4, fun h => g5 (h5 h)⟩
    · refine .inr ⟨g1, ?_, g3, g4, g5, by rw [h3] at g6; exact g6⟩
      rcases Int.lt_or_le 0 D.fate with q | q
      · exact q
      · have := h5 q; omega
  · rw [if_neg (by omega)]
    exact .inr ⟨h1, h2, h3, h4, h5, h6⟩
end DiskS

/-- what becomes of a record that is kept -/
theorem LogS.keep_out (L : LogS) {D : DiskS} (hd : D.down = false) (hc : D.cache = []) {ss : List Bytes} (hn : 1 ≤ ss.length) (hb : L.base D L.pos + ss.length ≤ D.kept.length) :
    ((L.keep D ss).1 = 0 ∧ (L.keep D ss).2.down = false ∧ (L.keep D ss).2.cache = [] ∧ (D.fate ≤ 0 → (L.keep D ss).2.fate ≤ 0) ∧
      (L.keep D ss).2.kept = DiskS.keepAll (DiskS.puts (L.base D L.pos) (ss.take 1)) (DiskS.keepAll (DiskS.puts (L.base D L.pos + 1) ss.tail) D.kept)) ∨
    ((L.keep D ss).1 = 3 ∧ 0 < D.fate ∧ (L.keep D ss).2.down = true ∧ (L.keep D ss).2.cache = [] ∧ (L.keep D ss).2.fate = -1 ∧
      (Mix D.kept (DiskS.puts (L.base D L.pos + 1) ss.tail) (L.keep D ss).2.kept ∨
       Mix (DiskS.keepAll (DiskS.puts (L.base D L.pos + 1) ss.tail) D.kept) (DiskS.puts (L.base D L.pos) (ss.take 1)) (L.keep D ss).2.kept)) := by
  have t1 : (ss.take 1).length = 1 := by simp; omega
  have hb1 : L.base D (L.pos + 1) = L.base D L.pos + 1 := by unfold LogS.base; omega
  have hb2 : ∀ (D' : DiskS), D'.kept.length = D.kept.length → L.base D' L.pos = L.base D L.pos := fun D' e => by unfold LogS.base; rw [hf_eq e]
  have first : DiskS.Out D (DiskS.keepAll (DiskS.puts (L.base D L.pos + 1) ss.tail) D.kept) (DiskS.puts (L.base D L.pos + 1) ss.tail) [] (if 1 < ss.length then andThen (D.put (L.base D (L.pos + 1)) ss.tail) DiskS.flush else (0, D)) := by
    split
    · rw [hb1]
      exact DiskS.putFlush_out hd hc ss.tail _ (by rw [List.length_tail]; omega)
    · have : ss.tail = [] := List.length_eq_zero_iff.1 (by rw [List.length_tail]; omega)
      rw [this]
      exact .inl ⟨rfl, hd, rfl, hc, fun h => h⟩
  unfold LogS.keep
  generalize (if 1 < ss.length then andThen (D.put (L.base D (L.pos + 1)) ss.tail) DiskS.flush else (0, D)) = x at *
  have hk : (DiskS.keepAll (DiskS.puts (L.base D L.pos + 1) ss.tail) D.kept).length = D.kept.length := DiskS.keepAll_len _ _
  rcases first with ⟨h1, h2, h3, h4, h5⟩ | ⟨h1, h2, h3, h4, h5, h6⟩
  · have e : andThen x (fun D => andThen (D.put (L.base D L.pos) (ss.take 1)) DiskS.flush) = andThen (x.2.put (L.base D L.pos) (ss.take 1)) DiskS.flush := by
      rw [andThen_ok h1, hb2 x.2 (by rw [h3]; exact hk)]
    rw [e]
    have := DiskS.putFlush_out h2 h4 (ss.take 1) (L.base D L.pos) (by rw [h3, hk]; omega)
    rw [h3] at this
    rcases this with ⟨g1, g2, g3, g4, g5⟩ | ⟨g1, g2, g3, g4, g5, g6⟩
    · exact .inl ⟨g1, g2, g4, fun h => g5 (h5 h), g3⟩
    · refine .inr ⟨g1, ?_, g3, g4, g5, .inr (by rw [h3] at g6; exact g6)⟩
      rcases Int.lt_or_le 0 D.fate with q | q
      · exact q
      · have := h5 q; omega
  · have e : andThen x (fun D => andThen (D.put (L.base D L.pos) (ss.take 1)) DiskS.flush) = x := by
      exact andThen_bad (by omega)
    rw [e]
    exact .inr ⟨h1, h2, h3, h4, h5, .inl h6⟩
end Go.Proofs.Ytbhlolmglieehaa

/- Records that lie on a disk are found. -/
set_option linter.unusedSimpArgs false
set_option linter.unusedVariables false
namespace Go.Proofs.Ytbhlolmglieehaa

theorem rd_le4 {n : Nat} (h : n < 4294967296) {most : Int} (hm : (n : Int) ≤ most) (r : Bytes) (bad : Bool) : Rd.num most ⟨le4 n ++ r, bad⟩ = ((n : Int), ⟨r, bad⟩) := by
  simp only [le4, List.cons_append, List.nil_append, Rd.num, val4_le4 n h]
  rw [if_neg (by omega)]

/-- the epoch that a record's first sector names -/
def ep (s : Bytes) : Nat := match (s.drop 9).take 4 with
  | [a, b, c, d] => val4 a b c d
  | _ => 0

theorem four {s : Bytes} {n : Nat} (h : n + 4 ≤ s.length) : ∃ a b c d, (s.drop n).take 4 = [a, b, c, d] ∧ s.drop n = a :: b :: c :: d :: s.drop (n + 4) := by
  have h1 : n < s.length := by omega
  refine ⟨s[n], s[n + 1], s[n + 2], s[n + 3], ?_, ?_⟩
  · rw [List.drop_eq_getElem_cons h1, List.drop_eq_getElem_cons (show n + 1 < s.length by omega), List.drop_eq_getElem_cons (show n + 1 + 1 < s.length by omega), List.drop_eq_getElem_cons (show n + 1 + 1 + 1 < s.length by omega)]; rfl
  · rw [List.drop_eq_getElem_cons h1, List.drop_eq_getElem_cons (show n + 1 < s.length by omega), List.drop_eq_getElem_cons (show n + 1 + 1 < s.length by omega), List.drop_eq_getElem_cons (show n + 1 + 1 + 1 < s.length by omega)]

/-- reads that went well -/
theorem num_good {most : Int} {R : Rd} (h : (R.num most).2.bad = false) : ∃ a b c d r, R.b = a :: b :: c :: d :: r ∧ R.bad = false ∧ R.num most = ((val4 a b c d : Int), ⟨r, false⟩) := by
  obtain ⟨bs, bad⟩ := R
  unfold Rd.num at h ⊢
  split at h
  · rename_i x a b c d r bad' heq
    cases heq
    split at h
    · cases h
    · rename_i hm
      dsimp only at h
      subst h
      refine ⟨a, b, c, d, r, rfl, rfl, ?_⟩
      rw [if_neg hm]
  · cases h

/-- a sector that begins no record of an epoch -/
def Stale (e : Nat) (s : Bytes) : Prop := ¬ (s[0]? = some 2 ∧ ep s = e)

theorem next_stop {L : LogS} {D : DiskS} (h : L.pos < D.hf → Stale L.epoch (D.at_ (L.base D L.pos))) : L.next D = none := by
  unfold LogS.next
  by_cases h1 : D.hf ≤ L.pos
  · rw [if_pos h1]
  have hs := h (by omega)
  rw [if_neg h1]
  dsimp only
  generalize D.at_ (L.base D L.pos) = s at *
  by_cases h2 : s[0]? = some 2
  · rw [if_pos h2]
    by_cases h3 : ((((((headOf s).num 4096).2.num 2147483648).2.num 2147483648).2.num 4294967295).2).bad = true
    · rw [if_pos h3]
    · have h3' : ((((((headOf s).num 4096).2.num 2147483648).2.num 2147483648).2.num 4294967295).2).bad = false := by simpa using h3
      obtain ⟨_, _, _, _, _, _, g3, _⟩ := num_good h3'
      obtain ⟨a3, b3, c3, d3, r3, e3, g2, v3⟩ := num_good g3
      obtain ⟨a2, b2, c2, d2, r2, e2, g1, v2⟩ := num_good g2
      obtain ⟨a1, b1, c1, d1, r1, e1, _, v1⟩ := num_good g1
      rw [v1] at e2
      rw [v2] at e3
      dsimp only at e2 e3
      have hep : ep s = val4 a3 b3 c3 d3 := by
        have : (s.drop 1).take 16 = a1 :: b1 :: c1 :: d1 :: a2 :: b2 :: c2 :: d2 :: a3 :: b3 :: c3 :: d3 :: r3 := by rw [← e3, ← e2, ← e1]; rfl
        have h8 := congrArg (fun l => (l.drop 8).take 4) this
        simp only [List.drop_take, List.drop_drop, List.take_take] at h8
        unfold ep
        rw [show (s.drop 9).take 4 = [a3, b3, c3, d3] by simpa using h8]
      have hx3 : ((((headOf s).num 4096).2.num 2147483648).2.num 2147483648).1 = (ep s : Int) := by rw [v3, hep]
      rw [if_neg h3, hx3, if_neg (show ¬ ((ep s : Int) = (L.epoch : Int)) from fun e => hs ⟨h2, by omega⟩)]
      split <;> rfl
  · rw [if_neg h2]

/-- a record's bytes with what fills its last sector -/
def padded (all : Bytes) (k : Nat) : Bytes := all ++ List.replicate (k * 63 - all.length) 0

theorem sect_tail {all : Bytes} {k i : Nat} (hi : i < k) (hl : all.length ≤ k * 63) : (sectOf all i).drop 1 = ((padded all k).drop (i * 63)).take 63 := by
  unfold sectOf padded
  simp only [List.drop_succ_cons, List.drop_zero]
  have hk : i * 63 + 63 ≤ k * 63 := by have := Nat.mul_le_mul_right 63 (show i + 1 ≤ k by omega); omega
  rw [List.drop_append, List.take_append]
  congr 1
  rw [List.drop_replicate, List.take_replicate]
  congr 1
  simp only [List.length_take, List.length_drop]
  omega

theorem gather_ok {D : DiskS} {base : Nat} {all : Bytes} {k : Nat} (hl : all.length ≤ k * 63) (hs : ∀ j, j < k → D.at_ (base + j) = sectOf all j) : ∀ (n i : Nat), 1 ≤ i → i + n = k →
    gather D base n i (((padded all k).take (i * 63)).drop 16) = some ((padded all k).drop 16) := by
  have hp : (padded all k).length = k * 63 := by unfold padded; rw [List.length_append, List.length_replicate]; omega
  intro n
  induction n with
  | zero =>
    intro i _ hi
    have : i = k := by omega
    subst this
    simp only [gather]
    rw [List.take_of_length_le (by omega)]
  | succ n ih =>
    intro i h1 hi
    simp only [gather]
    rw [hs i (by omega)]
    have h3 : (sectOf all i)[0]? = some 3 := by unfold sectOf; rw [if_neg (by omega)]; rfl
    rw [if_pos h3, sect_tail (by omega) hl]
    have := ih (i + 1) (by omega) (by omega)
    rw [← this]
    congr 1
    rw [Nat.add_mul, Nat.one_mul, List.take_add, List.drop_append_of_le_length]
    rw [List.length_take, hp]
    have : (i + 1) * 63 ≤ k * 63 := Nat.mul_le_mul_right 63 (by omega)
    omega

theorem next_hit {L : LogS} {D : DiskS} {b : Bytes} (hb : b.length ≤ 4096) (hp : L.pos + sectorsOf b.length ≤ D.hf) (hl : L.list.length ≤ 2147483648) (he : L.epoch ≤ 2147483648)
    (hs : ∀ j, j < sectorsOf b.length → D.at_ (L.base D L.pos + j) = sectOf (hdrOf L.list.length L.epoch b) j) : L.next D = some (b, sectorsOf b.length) := by
  have hk := sectors_le hb
  have hal := hdrOf_len L.list.length L.epoch b
  have hs0 := hs 0 (by omega)
  rw [Nat.add_zero] at hs0
  unfold LogS.next
  rw [if_neg (by omega)]
  dsimp only
  have hcr := crcOf_lt ((le4 L.list.length ++ le4 L.epoch) ++ b)
  have hhead : headOf (D.at_ (L.base D L.pos)) = ⟨le4 b.length ++ (le4 L.list.length ++ (le4 L.epoch ++ (le4 (crcOf ((le4 L.list.length ++ le4 L.epoch) ++ b)) ++ []))), false⟩ := by
    rw [hs0]
    unfold headOf sectOf
    simp only [Nat.zero_mul, List.drop_zero, List.drop_succ_cons]
    rw [Rd.mk.injEq]
    refine ⟨?_, rfl⟩
    have h16 : 16 ≤ ((hdrOf L.list.length L.epoch b).take 63).length := by rw [List.length_take, hal]; omega
    rw [List.take_append_of_le_length h16, List.take_take]
    unfold hdrOf
    have : ∀ x y z w r : Bytes, x.length = 4 → y.length = 4 → z.length = 4 → w.length = 4 → List.take (min 16 63) (x ++ (y ++ (z ++ (w ++ r)))) = x ++ (y ++ (z ++ (w ++ []))) := by
      intro x y z w r h1 h2 h3 h4
      rw [show min 16 63 = 16 from rfl, List.take_append, List.take_append, List.take_append, List.take_append, h1, h2, h3, h4]
      rw [List.take_of_length_le (by omega), List.take_of_length_le (by omega), List.take_of_length_le (by omega), List.take_of_length_le (by omega)]
      simp
    exact this _ _ _ _ _ (le4_len _) (le4_len _) (le4_len _) (le4_len _)
  rw [hhead, rd_le4 (by omega) (by omega)]
  dsimp only
  rw [rd_le4 (by omega) (by omega)]
  dsimp only
  rw [rd_le4 (by omega) (by omega)]
  dsimp only
  rw [rd_le4 hcr (by omega)]
  dsimp only
  simp only [Int.toNat_natCast]
  have hm : (D.at_ (L.base D L.pos))[0]? = some 2 := by rw [hs0]; unfold sectOf; rw [if_pos rfl]; rfl
  rw [if_pos hm, if_neg (by decide), if_pos trivial, if_pos trivial, if_neg (by omega)]
  have hle : (hdrOf L.list.length L.epoch b).length ≤ sectorsOf b.length * 63 := by rw [hal]; unfold sectorsOf; omega
  have hd17 : (D.at_ (L.base D L.pos)).drop 17 = ((padded (hdrOf L.list.length L.epoch b) (sectorsOf b.length)).take (1 * 63)).drop 16 := by
    have := sect_tail (i := 0) (k := sectorsOf b.length) (by omega) hle
    rw [Nat.zero_mul, List.drop_zero] at this
    rw [hs0, Nat.one_mul, ← this, List.drop_drop]
  rw [hd17, gather_ok hle hs (sectorsOf b.length - 1) 1 (Nat.le_refl _) (by omega)]
  dsimp only
  have hb2 : ((padded (hdrOf L.list.length L.epoch b) (sectorsOf b.length)).drop 16).take b.length = b := by
    unfold padded hdrOf
    have : ∀ x y z w r q : Bytes, x.length = 4 → y.length = 4 → z.length = 4 → w.length = 4 → (((x ++ (y ++ (z ++ (w ++ r)))) ++ q).drop 16).take r.length = r := by
      intro x y z w r q h1 h2 h3 h4
      rw [show (x ++ (y ++ (z ++ (w ++ r)))) ++ q = (x ++ y ++ z ++ w) ++ (r ++ q) by simp, List.drop_append, List.drop_eq_nil_of_le (by simp; omega)]
      rw [show 16 - (x ++ y ++ z ++ w).length = 0 by simp; omega]
      simp
    exact this _ _ _ _ _ _ (le4_len _) (le4_len _) (le4_len _) (le4_len _)
  rw [hb2, if_pos rfl]
end Go.Proofs.Ytbhlolmglieehaa

/- A disk that bears a log, and what is opened. -/
set_option linter.unusedSimpArgs false
set_option linter.unusedVariables false
namespace Go.Proofs.Ytbhlolmglieehaa

/-- records lie one behind the other -/
def Lies (f : Nat → Bytes) (B e : Nat) : Nat → Nat → List Bytes → Prop
  | _, _, [] => True
  | p, q, b :: r => (∀ j, j < sectorsOf b.length → f (B + p + j) = sectOf (hdrOf q e b) j) ∧ b.length ≤ 4096 ∧ Lies f B e (p + sectorsOf b.length) (q + 1) r

structure Rep (f : Nat → Bytes) (n e h : Nat) (list : List Bytes) (T : Nat) : Prop where
  size : 6 ≤ n ∧ n ≤ 4096
  half : h ≤ 1
  epoch : 1 ≤ e ∧ e ≤ T
  top : T ≤ 2147483648
  lies : Lies f (2 + h * ((n - 2) / 2)) e 0 0 list
  room : total list ≤ (n - 2) / 2
  stale : ∀ k, total list ≤ k → k < (n - 2) / 2 → Stale e (f (2 + h * ((n - 2) / 2) + k))
  head : f h = headSect e
  other : (goodOf (f (1 - h))).2 = true → (goodOf (f (1 - h))).1 < e
  tops : ∀ a, 2 ≤ a → a < n → (f a)[0]? = some 2 → ep (f a) ≤ T
  len : ∀ a, a < n → (f a).length = 64

theorem len_le_total : ∀ (l : List Bytes), l.length ≤ total l := by
  intro l
  induction l with
  | nil => exact Nat.le_refl _
  | cons b l ih =>
    simp only [List.length_cons, total]
    have : 1 ≤ sectorsOf b.length := by unfold sectorsOf; omega
    omega

theorem scan_lies (D : DiskS) : ∀ (rs : List Bytes) (L : LogS) (fuel : Nat), Lies D.at_ (2 + L.half * D.hf) L.epoch L.pos L.list.length rs → L.pos + total rs ≤ D.hf → L.list.length + rs.length ≤ 2147483648 → L.epoch ≤ 2147483648 →
    (L.pos + total rs < D.hf → Stale L.epoch (D.at_ (2 + L.half * D.hf + (L.pos + total rs)))) → rs.length < fuel → scanN fuel L D = { L with pos := L.pos + total rs, list := L.list ++ rs } := by
  intro rs
  induction rs with
  | nil =>
    intro L fuel _ hp _ _ hst hf
    obtain ⟨n, rfl⟩ : ∃ n, fuel = n + 1 := ⟨fuel - 1, by simp at hf; omega⟩
    have : L.next D = none := next_stop (fun h => by simpa [LogS.base, total] using hst (by simpa [total] using h))
    simp only [scanN, this, total, Nat.add_zero, List.append_nil]
  | cons b rs ih =>
    intro L fuel hl hp hq he hst hf
    obtain ⟨n, rfl⟩ : ∃ n, fuel = n + 1 := ⟨fuel - 1, by simp at hf; omega⟩
    obtain ⟨h1, h2, h3⟩ := hl
    simp only [total, List.length_cons] at hp hst hf hq
    have hn := next_hit (L := L) (D := D) h2 (by omega) (by omega) he (fun j hj => h1 j hj)
    simp only [scanN, hn]
    have := ih { L with pos := L.pos + sectorsOf b.length, list := L.list ++ [b] } n (by simpa using h3) (by dsimp only; omega) (by simp only [List.length_append, List.length_singleton]; omega) he
      (fun h => by dsimp only at h ⊢; rw [Nat.add_assoc L.pos]; exact hst (by omega)) (by omega)
    rw [this]
    simp only [total, Nat.add_assoc, List.append_assoc, List.singleton_append]

theorem good_head {e : Nat} (he : e ≤ 2147483648) : goodOf (headSect e) = ((e : Int), true) := by
  have hne : headSect e ≠ List.replicate 64 0 := by
    intro h
    have := congrArg (fun l => l[0]?) h
    simp [headSect] at this
  have h8 : ((headSect e).drop 1).take 8 = le4 e ++ (le4 (crcOf (1 :: le4 e)) ++ []) := rfl
  have h5 : (headSect e).take 5 = 1 :: le4 e := rfl
  unfold goodOf
  rw [if_neg hne, h8, h5, rd_le4 (by omega) (by omega)]
  dsimp only
  rw [rd_le4 (crcOf_lt _) (by have := crcOf_lt (1 :: le4 e); omega)]
  simp [headSect]

theorem lookStep_first {s : Bytes} (hs : s.length = 64) (hm : s[0]? = some 2) {t T : Nat} (hT : T ≤ 2147483648) (h : ep s ≤ T) : lookStep s t = max t (ep s) := by
  obtain ⟨a, b, c, d, h4, _⟩ := four (s := s) (n := 9) (by omega)
  have he : ep s = val4 a b c d := by unfold ep; rw [h4]
  unfold lookStep
  rw [if_pos hm, h4]
  simp only [Rd.num]
  rw [if_neg (by omega), he]
  simp

theorem lookN_tops (D : DiskS) {T : Nat} (hT : T ≤ 2147483648) : ∀ (n a t : Nat), t ≤ T → (∀ b, a ≤ b → b < a + n → (D.at_ b).length = 64 ∧ ((D.at_ b)[0]? = some 2 → ep (D.at_ b) ≤ T)) →
    t ≤ lookN D n a t ∧ lookN D n a t ≤ T ∧ ∀ b, a ≤ b → b < a + n → (D.at_ b)[0]? = some 2 → ep (D.at_ b) ≤ lookN D n a t := by
  intro n
  induction n with
  | zero => intro a t ht _; exact ⟨Nat.le_refl _, ht, fun b h1 h2 => by omega⟩
  | succ n ih =>
    intro a t ht h
    simp only [lookN]
    have ha := h a (Nat.le_refl _) (by omega)
    have hst : t ≤ lookStep (D.at_ a) t ∧ lookStep (D.at_ a) t ≤ T ∧ ((D.at_ a)[0]? = some 2 → ep (D.at_ a) ≤ lookStep (D.at_ a) t) := by
      by_cases hm : (D.at_ a)[0]? = some 2
      · rw [lookStep_first ha.1 hm hT (ha.2 hm)]
        have := ha.2 hm
        exact ⟨by omega, by omega, fun _ => by omega⟩
      · have : lookStep (D.at_ a) t = t := by unfold lookStep; rw [if_neg hm]
        rw [this]
        exact ⟨Nat.le_refl _, ht, fun x => absurd x hm⟩
    obtain ⟨h1, h2, h3⟩ := ih (a + 1) (lookStep (D.at_ a) t) hst.2.1 (fun b g1 g2 => h b (by omega) (by omega))
    refine ⟨by omega, h2, fun b g1 g2 g3 => ?_⟩
    by_cases hb : b = a
    · subst hb
      have := hst.2.2 g3; omega
    · exact h3 b (by omega) (by omega) g3

/-- what is opened -/
theorem open_rep {D : DiskS} {e h T : Nat} {list : List Bytes} (r : Rep D.at_ D.kept.length e h list T) :
    ∃ t, e ≤ t ∧ t ≤ T ∧ (∀ a, 2 ≤ a → a < D.kept.length → (D.at_ a)[0]? = some 2 → ep (D.at_ a) ≤ t) ∧ openS D = (0, some ⟨e, t, h, total list, list, false⟩, D) := by
  have hsz := r.size
  have hee := r.epoch
  have hT := r.top
  have hgh : goodOf (D.at_ h) = ((e : Int), true) := by rw [r.head]; exact good_head (by omega)
  have hhd : headS D = mkL e h := by
    have hs : ∀ L1, (if (goodOf (D.at_ 0)).2 = true ∧ ((0 : Nat) : Int) < (goodOf (D.at_ 0)).1 then mkL (goodOf (D.at_ 0)).1.toNat 0 else mkL 0 0) = L1 →
        headS D = if (goodOf (D.at_ 1)).2 = true ∧ (L1.epoch : Int) < (goodOf (D.at_ 1)).1 then { L1 with epoch := (goodOf (D.at_ 1)).1.toNat, half := 1 } else L1 := by
      intro L1 h; subst h; rfl
    have ho := r.other
    have hr := goodOf_range (D.at_ (1 - h))
    rcases (show h = 0 ∨ h = 1 by have := r.half; omega) with rfl | rfl
    · rw [hs (mkL e 0) (by rw [hgh, if_pos ⟨rfl, by show ((0 : Nat) : Int) < (e : Int); omega⟩]; rfl)]
      rw [if_neg (by rintro ⟨h1, h2⟩; have := ho h1; rw [show (mkL e 0).epoch = e from rfl] at h2; simp only [Nat.sub_zero] at this; omega)]
    · by_cases h0 : (goodOf (D.at_ 0)).2 = true ∧ ((0 : Nat) : Int) < (goodOf (D.at_ 0)).1
      · have hoo := ho h0.1
        rw [hs (mkL (goodOf (D.at_ 0)).1.toNat 0) (by rw [if_pos h0]), hgh]
        rw [if_pos ⟨rfl, by rw [show (mkL (goodOf (D.at_ 0)).1.toNat 0).epoch = (goodOf (D.at_ 0)).1.toNat from rfl]; simp only [Nat.sub_self] at hoo; show _ < (e : Int); omega⟩]
        rfl
      · rw [hs (mkL 0 0) (by rw [if_neg h0]), hgh, if_pos ⟨rfl, by show ((0 : Nat) : Int) < (e : Int); omega⟩]
        rfl
  obtain ⟨t1, t2, t3⟩ := lookN_tops D hT (D.kept.length - 2) 2 e hee.2 (fun b h1 h2 => ⟨r.len b (by omega), r.tops b h1 (by omega)⟩)
  have hlk : lookS D = ⟨e, lookN D (D.kept.length - 2) 2 e, h, 0, [], false⟩ := by unfold lookS; rw [hhd]; rfl
  refine ⟨lookN D (D.kept.length - 2) 2 e, t1, t2, fun a h1 h2 h3 => t3 a h1 (by omega) h3, ?_⟩
  unfold openS
  rw [if_neg (by omega), hhd, if_neg (by show ¬ (e = 0); omega), hlk]
  have hll := len_le_total list
  have hro := r.room
  have hhf : D.hf = (D.kept.length - 2) / 2 := rfl
  rw [scan_lies D list ⟨e, lookN D (D.kept.length - 2) 2 e, h, 0, [], false⟩ (D.hf + 1) r.lies (by dsimp only; omega) (by simp only [List.length_nil]; omega) (by dsimp only; omega)
    (fun hlt => by dsimp only at hlt ⊢; rw [Nat.zero_add]; exact r.stale _ (Nat.le_refl _) (by omega)) (by omega)]
  simp
end Go.Proofs.Ytbhlolmglieehaa

/- What becomes of a disk that bears a log. -/
set_option linter.unusedSimpArgs false
set_option linter.unusedVariables false
namespace Go.Proofs.Ytbhlolmglieehaa

def fK (K : List Bytes) (a : Nat) : Bytes := K.getD a []

theorem at_nil {D : DiskS} (h : D.cache = []) : D.at_ = fK D.kept := by
  funext a; unfold DiskS.at_ fK; rw [h]; rfl

theorem Lies.congr {f f' : Nat → Bytes} {B e : Nat} : ∀ {rs : List Bytes} {p q : Nat}, Lies f B e p q rs → (∀ k, p ≤ k → k < p + total rs → f' (B + k) = f (B + k)) → Lies f' B e p q rs := by
  intro rs
  induction rs with
  | nil => intro p q _ _; trivial
  | cons b r ih =>
    intro p q h hf
    obtain ⟨h1, h2, h3⟩ := h
    simp only [total] at hf
    refine ⟨fun j hj => ?_, h2, ih h3 fun k k1 k2 => hf k (by omega) (by omega)⟩
    rw [← h1 j hj, Nat.add_assoc, hf (p + j) (by omega) (by omega)]

theorem Lies.snoc {f : Nat → Bytes} {B e : Nat} {b : Bytes} : ∀ {rs : List Bytes} {p q : Nat}, Lies f B e p q rs → (∀ j, j < sectorsOf b.length → f (B + (p + total rs) + j) = sectOf (hdrOf (q + rs.length) e b) j) → b.length ≤ 4096 → Lies f B e p q (rs ++ [b]) := by
  intro rs
  induction rs with
  | nil => intro p q _ h hb; exact ⟨fun j hj => by simpa [total] using h j hj, hb, trivial⟩
  | cons x r ih =>
    intro p q h hs hb
    obtain ⟨h1, h2, h3⟩ := h
    simp only [total, List.length_cons] at hs
    refine ⟨h1, h2, ih h3 (fun j hj => ?_) hb⟩
    rw [show q + 1 + r.length = q + (r.length + 1) by omega, show p + sectorsOf x.length + total r = p + (sectorsOf x.length + total r) by omega]
    exact hs j hj

theorem sect_more {all : Bytes} {j : Nat} (h : 1 ≤ j) : (sectOf all j)[0]? = some 3 := by unfold sectOf; rw [if_neg (by omega)]; rfl
theorem stale_more {all : Bytes} {j e : Nat} (h : 1 ≤ j) : Stale e (sectOf all j) := by
  rintro ⟨h1, _⟩; rw [sect_more h] at h1; cases h1

theorem ep_first (q e : Nat) (b : Bytes) (he : e < 4294967296) : ep (sectOf (hdrOf q e b) 0) = e := by
  have hal := hdrOf_len q e b
  have : (((sectOf (hdrOf q e b) 0).drop 9).take 4) = le4 e := by
    unfold sectOf
    simp only [Nat.zero_mul, List.drop_zero, List.drop_succ_cons]
    have h12 : 12 ≤ ((hdrOf q e b).take 63).length := by rw [List.length_take, hal]; omega
    rw [List.drop_append_of_le_length (by omega), List.take_append_of_le_length (by rw [List.length_drop]; omega), List.drop_take, List.take_take]
    unfold hdrOf
    have : ∀ x y z r : Bytes, x.length = 4 → y.length = 4 → z.length = 4 → List.take (min 4 (63 - 8)) (List.drop 8 (x ++ (y ++ (z ++ r)))) = z := by
      intro x y z r h1 h2 h3
      rw [show x ++ (y ++ (z ++ r)) = (x ++ y) ++ (z ++ r) by simp, List.drop_append, List.drop_eq_nil_of_le (by simp; omega), show 8 - (x ++ y).length = 0 by simp; omega]
      rw [List.drop_zero, List.nil_append, show min 4 (63 - 8) = 4 from rfl, List.take_append_of_le_length (by omega), List.take_of_length_le (by omega)]
    exact this _ _ _ _ (le4_len _) (le4_len _) (le4_len _)
  unfold ep
  rw [this]
  exact val4_le4 e he

/-- the log stands as it was -/
theorem Rep.stands {f f' : Nat → Bytes} {n e h T T' : Nat} {list : List Bytes} (r : Rep f n e h list T) (h2 : ∀ a, a < 2 → f' a = f a) (hT : T ≤ T') (hT' : T' ≤ 2147483648)
    (hk : ∀ k, k < total list → f' (2 + h * ((n - 2) / 2) + k) = f (2 + h * ((n - 2) / 2) + k))
    (hs : ∀ k, total list ≤ k → k < (n - 2) / 2 → Stale e (f' (2 + h * ((n - 2) / 2) + k)))
    (ht : ∀ a, 2 ≤ a → a < n → (f' a)[0]? = some 2 → ep (f' a) ≤ T') (hl : ∀ a, a < n → (f' a).length = 64) : Rep f' n e h list T' := by
  have hh := r.half
  exact ⟨r.size, r.half, ⟨r.epoch.1, Nat.le_trans r.epoch.2 hT⟩, hT', r.lies.congr (fun k _ k2 => hk k (by omega)), r.room, hs, by rw [h2 h (by omega)]; exact r.head,
    by rw [h2 (1 - h) (by omega)]; exact r.other, ht, hl⟩

/-- the power went while a record was being kept -/
theorem Rep.torn {f f' : Nat → Bytes} {n e h T : Nat} {list : List Bytes} (r : Rep f n e h list T) {all : Bytes} {k : Nat} (hk : total list + k ≤ (n - 2) / 2)
    (hf : ∀ a, a < n → f' a = f a ∨ (2 + h * ((n - 2) / 2) + total list + 1 ≤ a ∧ a < 2 + h * ((n - 2) / 2) + total list + k ∧ ∃ j, 1 ≤ j ∧ f' a = sectOf all j)) : Rep f' n e h list T := by
  have hh := r.half
  have hsz := r.size
  have hm : h * ((n - 2) / 2) ≤ (n - 2) / 2 := by have := Nat.mul_le_mul_right ((n - 2) / 2) hh; omega
  refine r.stands (fun a ha => ?_) (Nat.le_refl _) r.top (fun k' hk' => ?_) (fun k' h1 h3 => ?_) (fun a h1 h3 hm2 => ?_) (fun a ha => ?_)
  · rcases hf a (by omega) with e | ⟨e, _⟩
    · exact e
    · omega
  · rcases hf (2 + h * ((n - 2) / 2) + k') (by omega) with e | ⟨e, _⟩
    · exact e
    · omega
  · rcases hf (2 + h * ((n - 2) / 2) + k') (by omega) with e | ⟨_, _, j, hj, e⟩
    · rw [e]; exact r.stale k' h1 h3
    · rw [e]; exact stale_more hj
  · rcases hf a h3 with e | ⟨_, _, j, hj, e⟩
    · rw [e] at hm2 ⊢; exact r.tops a h1 h3 hm2
    · rw [e, sect_more hj] at hm2; cases hm2
  · rcases hf a ha with e | ⟨_, _, j, hj, e⟩
    · rw [e]; exact r.len a ha
    · rw [e]; exact sectOf_len _ _

/-- a record was kept -/
theorem Rep.kept {f f' : Nat → Bytes} {n e h T : Nat} {list : List Bytes} (r : Rep f n e h list T) {b : Bytes} (hb : b.length ≤ 4096) (hk : total list + sectorsOf b.length ≤ (n - 2) / 2)
    (hf : ∀ a, a < n → f' a = if 2 + h * ((n - 2) / 2) + total list ≤ a ∧ a < 2 + h * ((n - 2) / 2) + total list + sectorsOf b.length then sectOf (hdrOf list.length e b) (a - (2 + h * ((n - 2) / 2) + total list)) else f a) :
    Rep f' n e h (list ++ [b]) T := by
  have hh := r.half
  have hsz := r.size
  have hee := r.epoch
  have hT := r.top
  have hm : h * ((n - 2) / 2) ≤ (n - 2) / 2 := by have := Nat.mul_le_mul_right ((n - 2) / 2) hh; omega
  have htot : total (list ++ [b]) = total list + sectorsOf b.length := by rw [total_app]; simp [total]
  have hs1 : 1 ≤ sectorsOf b.length := by unfold sectorsOf; omega
  refine ⟨r.size, r.half, r.epoch, r.top, ?_, by omega, fun k h1 h3 => ?_, ?_, ?_, fun a h1 h3 hm2 => ?_, fun a ha => ?_⟩
  · refine (r.lies.congr (f' := f') fun k _ k2 => ?_).snoc (fun j hj => ?_) hb
    · rw [hf _ (by omega), if_neg (by omega)]
    · rw [Nat.zero_add, Nat.zero_add, hf _ (by omega), if_pos (by omega)]
      congr 1; omega
  · rw [hf _ (by omega), if_neg (by omega)]
    exact r.stale k (by omega) h3
  · rw [hf h (by omega), if_neg (by omega)]; exact r.head
  · rw [hf (1 - h) (by omega), if_neg (by omega)]; exact r.other
  · rw [hf a h3] at hm2 ⊢
    split at hm2
    · rename_i hc
      rw [if_pos hc]
      by_cases h0 : a - (2 + h * ((n - 2) / 2) + total list) = 0
      · rw [h0, ep_first _ _ _ (by omega)]; exact hee.2
      · rw [sect_more (by omega)] at hm2; cases hm2
    · rename_i hc
      rw [if_neg hc]
      exact r.tops a h1 h3 hm2
  · rw [hf a ha]
    split
    · exact sectOf_len _ _
    · exact r.len a ha

/-- the sectors of records, one behind the other -/
def allSecs (e : Nat) : Nat → List Bytes → List Bytes
  | _, [] => []
  | q, b :: r => cutOf q e b ++ allSecs e (q + 1) r

theorem allSecs_len (e : Nat) : ∀ (rs : List Bytes) (q : Nat), (allSecs e q rs).length = total rs := by
  intro rs
  induction rs with
  | nil => intro q; rfl
  | cons b r ih => intro q; simp only [allSecs, total, List.length_append, cutOf_len, ih]

theorem allSecs_mem {e : Nat} (he : e < 4294967296) : ∀ (rs : List Bytes) (q : Nat) (s : Bytes), s ∈ allSecs e q rs → s.length = 64 ∧ (s[0]? = some 2 → ep s = e) := by
  intro rs
  induction rs with
  | nil => intro q s h; cases h
  | cons b r ih =>
    intro q s h
    rcases List.mem_append.1 h with h | h
    · obtain ⟨i, hi, rfl⟩ := List.mem_map.1 h
      refine ⟨sectOf_len _ _, fun hm => ?_⟩
      by_cases h0 : i = 0
      · subst h0; exact ep_first _ _ _ he
      · rw [sect_more (by omega)] at hm; cases hm
    · exact ih (q + 1) s h

theorem lies_secs {f : Nat → Bytes} {B e : Nat} : ∀ (rs : List Bytes) (p q : Nat), (∀ b ∈ rs, b.length ≤ 4096) → (∀ j, j < total rs → f (B + p + j) = (allSecs e q rs).getD j []) → Lies f B e p q rs := by
  intro rs
  induction rs with
  | nil => intro p q _ _; trivial
  | cons b r ih =>
    intro p q h4 h
    simp only [total, allSecs] at h
    have hl := cutOf_len q e b
    refine ⟨fun j hj => ?_, h4 b (.head _), ih (p + sectorsOf b.length) (q + 1) (fun x hx => h4 x (.tail _ hx)) fun j hj => ?_⟩
    · rw [h j (by omega), List.getD_eq_getElem?_getD, List.getElem?_append_left (by omega)]
      unfold cutOf
      rw [List.getElem?_map, List.getElem?_range hj]; rfl
    · have := h (sectorsOf b.length + j) (by omega)
      rw [show B + (p + sectorsOf b.length) + j = B + p + (sectorsOf b.length + j) by omega, this, List.getD_eq_getElem?_getD, List.getElem?_append_right (by omega), hl, Nat.add_sub_cancel_left, List.getD_eq_getElem?_getD]

/-- a log was written anew -/
theorem Rep.anew {f f' : Nat → Bytes} {n t h : Nat} {bss : List Bytes} (hsz : 6 ≤ n ∧ n ≤ 4096) (hh : h ≤ 1) (ht : t + 1 ≤ 2147483648) (h4 : ∀ b ∈ bss, b.length ≤ 4096) (hroom : total bss ≤ (n - 2) / 2)
    (hlen : ∀ a, a < n → (f a).length = 64) (htops : ∀ a, 2 ≤ a → a < n → (f a)[0]? = some 2 → ep (f a) ≤ t) (hheads : ∀ a, a < 2 → (goodOf (f a)).2 = true → (goodOf (f a)).1 ≤ t)
    (hf : ∀ a, a < n → f' a = if 2 + h * ((n - 2) / 2) ≤ a ∧ a < 2 + h * ((n - 2) / 2) + total bss then (allSecs (t + 1) 0 bss).getD (a - (2 + h * ((n - 2) / 2))) [] else if a = h then headSect (t + 1) else f a) :
    Rep f' n (t + 1) h bss (t + 1) := by
  have hm : h * ((n - 2) / 2) ≤ (n - 2) / 2 := by have := Nat.mul_le_mul_right ((n - 2) / 2) hh; omega
  have hal := allSecs_len (t + 1) bss 0
  have hin : ∀ j, j < total bss → (allSecs (t + 1) 0 bss).getD j [] ∈ allSecs (t + 1) 0 bss := fun j hj => by
    rw [List.getD_eq_getElem?_getD, List.getElem?_eq_getElem (by omega)]; exact List.getElem_mem _
  refine ⟨hsz, hh, ⟨by omega, Nat.le_refl _⟩, ht, ?_, hroom, fun k h1 h3 => ?_, ?_, fun hg => ?_, fun a h1 h3 hm2 => ?_, fun a ha => ?_⟩
  · refine lies_secs bss 0 0 h4 fun j hj => ?_
    rw [Nat.add_zero, hf _ (by omega), if_pos (by omega)]
    congr 1; omega
  · rw [hf _ (by omega), if_neg (by omega), if_neg (by omega)]
    rintro ⟨g1, g2⟩
    have := htops _ (by omega) (by omega) g1
    omega
  · rw [hf h (by omega), if_neg (by omega), if_pos rfl]
  · rw [hf (1 - h) (by omega), if_neg (by omega), if_neg (by omega)] at hg ⊢
    have := hheads (1 - h) (by omega) hg
    omega
  · rw [hf a h3] at hm2 ⊢
    split at hm2
    · rename_i hc
      rw [if_pos hc]
      have := (allSecs_mem (by omega) bss 0 _ (hin (a - (2 + h * ((n - 2) / 2))) (by omega))).2 hm2
      omega
    · rename_i hc
      rw [if_neg hc, if_neg (by omega)]
      rw [if_neg (by omega)] at hm2
      have := htops a h1 h3 hm2; omega
  · rw [hf a ha]
    split
    · exact (allSecs_mem (by omega) bss 0 _ (hin (a - (2 + h * ((n - 2) / 2))) (by omega))).1
    · split
      · rfl
      · exact hlen a ha

/-- the power went while a log was being written anew -/
theorem Rep.tornAnew {f f' : Nat → Bytes} {n e h T t : Nat} {list bss : List Bytes} (r : Rep f n e h list T) (ht : t + 1 ≤ 2147483648) (hroom : total bss ≤ (n - 2) / 2)
    (hf : ∀ a, a < n → f' a = f a ∨ (2 + (1 - h) * ((n - 2) / 2) ≤ a ∧ a < 2 + (1 - h) * ((n - 2) / 2) + total bss ∧ f' a ∈ allSecs (t + 1) 0 bss)) : Rep f' n e h list (max T (t + 1)) := by
  have hh := r.half
  have hsz := r.size
  have hT := r.top
  have hro := r.room
  have hcase : h = 0 ∨ h = 1 := by omega
  have dis : ∀ k, k < (n - 2) / 2 → f' (2 + h * ((n - 2) / 2) + k) = f (2 + h * ((n - 2) / 2) + k) := by
    intro k hk
    rcases hcase with rfl | rfl
    · rcases hf (2 + 0 * ((n - 2) / 2) + k) (by omega) with e | ⟨e, _⟩
      · exact e
      · omega
    · rcases hf (2 + 1 * ((n - 2) / 2) + k) (by omega) with e | ⟨_, e, _⟩
      · exact e
      · omega
  refine r.stands (fun a ha => ?_) (by omega) (by omega) (fun k' hk' => dis k' (by omega)) (fun k' h1 h3 => by rw [dis k' h3]; exact r.stale k' h1 h3) (fun a h1 h3 hm2 => ?_) (fun a ha => ?_)
  · rcases hf a (by omega) with e | ⟨e, _⟩
    · exact e
    · omega
  · rcases hf a h3 with e | ⟨_, _, e⟩
    · rw [e] at hm2 ⊢; have := r.tops a h1 h3 hm2; omega
    · have := (allSecs_mem (by omega) bss 0 _ e).2 hm2; omega
  · rcases hf a ha with e | ⟨_, _, e⟩
    · rw [e]; exact r.len a ha
    · exact (allSecs_mem (by omega) bss 0 _ e).1
end Go.Proofs.Ytbhlolmglieehaa

/- Logs that are held: opened, appended to. -/
set_option linter.unusedSimpArgs false
set_option linter.unusedVariables false
namespace Go.Proofs.Ytbhlolmglieehaa

theorem fK_keepAll : ∀ (ss : List Bytes) (a i : Nat) (K : List Bytes), a + ss.length ≤ K.length → fK (DiskS.keepAll (DiskS.puts a ss) K) i = if a ≤ i ∧ i < a + ss.length then ss.getD (i - a) [] else fK K i := by
  intro ss
  induction ss with
  | nil => intro a i K _; simp only [DiskS.puts, DiskS.keepAll, List.length_nil]; rw [if_neg (by omega)]
  | cons s r ih =>
    intro a i K h
    simp only [List.length_cons] at h
    simp only [DiskS.puts, DiskS.keepAll, List.length_cons]
    rw [ih (a + 1) i (K.set a s) (by rw [List.length_set]; omega)]
    by_cases h1 : a + 1 ≤ i ∧ i < a + 1 + r.length
    · rw [if_pos h1, if_pos (by omega), show i - a = (i - (a + 1)) + 1 by omega, List.getD_cons_succ]
    · rw [if_neg h1]
      by_cases h2 : i = a
      · subst h2
        rw [if_pos (by omega), Nat.sub_self, List.getD_cons_zero]
        unfold fK
        rw [List.getD_eq_getElem?_getD, List.getElem?_set, if_pos rfl, if_pos (by omega)]; rfl
      · rw [if_neg (by omega)]
        unfold fK
        rw [List.getD_eq_getElem?_getD, List.getElem?_set, if_neg (by omega), List.getD_eq_getElem?_getD]

theorem puts_mem : ∀ (ss : List Bytes) (b a : Nat) (s : Bytes), (a, s) ∈ DiskS.puts b ss → ∃ j, j < ss.length ∧ a = b + j ∧ ss[j]? = some s := by
  intro ss
  induction ss with
  | nil => intro b a s h; cases h
  | cons x r ih =>
    intro b a s h
    rcases List.mem_cons.1 h with h | h
    · cases h; exact ⟨0, by simp, rfl, rfl⟩
    · obtain ⟨j, h1, h2, h3⟩ := ih (b + 1) a s h
      exact ⟨j + 1, by simp; omega, by omega, by simpa using h3⟩

theorem Mix.at {K K' : List Bytes} {C : List (Nat × Bytes)} (h : Mix K C K') (a : Nat) : fK K' a = fK K a ∨ ∃ s, (a, s) ∈ C ∧ fK K' a = s := by
  unfold fK
  simp only [List.getD_eq_getElem?_getD]
  rcases h.2 a with e | ⟨s, m, e⟩
  · exact .inl (by rw [e])
  · exact .inr ⟨s, m, by rw [e]; rfl⟩

structure Held (L : LogS) (D : DiskS) (rs : List Bytes) : Prop where
  ok : L.Ok D
  list : L.list = rs
  pos : L.pos = total rs
  dead : L.dead = false
  down : D.down = false
  cache : D.cache = []
  rep : Rep (fK D.kept) D.kept.length L.epoch L.half rs L.top

theorem Rep.lower {f : Nat → Bytes} {n e h T t : Nat} {list : List Bytes} (r : Rep f n e h list T) (h1 : e ≤ t) (h2 : t ≤ T) (h3 : ∀ a, 2 ≤ a → a < n → (f a)[0]? = some 2 → ep (f a) ≤ t) : Rep f n e h list t :=
  ⟨r.size, r.half, ⟨r.epoch.1, h1⟩, Nat.le_trans h2 r.top, r.lies, r.room, r.stale, r.head, r.other, h3, r.len⟩

theorem open_held {D : DiskS} (hok : D.Ok) (hd : D.down = false) (hc : D.cache = []) {e h T : Nat} {list : List Bytes} (r : Rep (fK D.kept) D.kept.length e h list T) :
    ∃ L, openS D = (0, some L, D) ∧ Held L D list ∧ L.top ≤ T ∧ L.epoch = e ∧ L.half = h := by
  have r' : Rep D.at_ D.kept.length e h list T := by rw [at_nil hc]; exact r
  obtain ⟨t, t1, t2, t3, ho⟩ := open_rep r'
  rw [at_nil hc] at t3
  have hT := r.top
  have hl := len_le_total list
  exact ⟨_, ho, ⟨⟨r.half, r.room, by dsimp only; omega, by dsimp only; omega, hl, hok, r.size.1⟩, rfl, rfl, rfl, hd, hc, r.lower t1 t2 t3⟩, t2, rfl, rfl⟩

theorem append_held {L : LogS} {D : DiskS} {list : List Bytes} (hd : Held L D list) {b : Bytes} (hb : b.length ≤ 4096) (hroom : total list + sectorsOf b.length ≤ D.hf) :
    ((L.append D b).1 = 0 ∧ Held (L.append D b).2.1 (L.append D b).2.2 (list ++ [b]) ∧ (D.fate ≤ 0 → (L.append D b).2.2.fate ≤ 0) ∧ (L.append D b).2.2.kept.length = D.kept.length) ∨
    ((L.append D b).1 = 3 ∧ 0 < D.fate ∧ (L.append D b).2.1.dead = true ∧ (L.append D b).2.2.Ok ∧ (L.append D b).2.2.down = true ∧ (L.append D b).2.2.cache = [] ∧ (L.append D b).2.2.fate = -1 ∧ (L.append D b).2.2.kept.length = D.kept.length ∧
      ∃ l', (l' = list ∨ l' = list ++ [b]) ∧ Rep (fK (L.append D b).2.2.kept) D.kept.length L.epoch L.half l' L.top) := by
  have hok := (L.append_ok hd.ok (by rw [hd.cache]; simp) b)
  have r := hd.rep
  have hh := r.half
  have hsz := r.size
  have hpos := hd.pos
  have hlist := hd.list
  have hs1 : 1 ≤ sectorsOf b.length := by unfold sectorsOf; omega
  have hhf : D.hf = (D.kept.length - 2) / 2 := rfl
  have hm : L.half * ((D.kept.length - 2) / 2) ≤ (D.kept.length - 2) / 2 := by have := Nat.mul_le_mul_right ((D.kept.length - 2) / 2) hh; omega
  have hbase : L.base D L.pos = 2 + L.half * ((D.kept.length - 2) / 2) + total list := by unfold LogS.base; rw [hhf, hpos]
  have hcl := cutOf_len L.list.length L.epoch b
  have hko := L.keep_out hd.down hd.cache (ss := cutOf L.list.length L.epoch b) (by omega) (by rw [hbase]; omega)
  unfold LogS.append at hok ⊢
  rw [if_neg (by simp [hd.dead]), if_neg (by omega), if_neg (by omega)] at hok ⊢
  rw [hlist, hbase] at hko
  rw [hlist] at hok ⊢
  rw [hlist] at hcl
  have hgt : (cutOf list.length L.epoch b).take 1 = [sectOf (hdrOf list.length L.epoch b) 0] := by
    unfold cutOf
    obtain ⟨k, hk⟩ : ∃ k, sectorsOf b.length = k + 1 := ⟨sectorsOf b.length - 1, by omega⟩
    rw [hk, List.range_succ_eq_map]; rfl
  have hgd : ∀ j, j < (cutOf list.length L.epoch b).tail.length → (cutOf list.length L.epoch b).tail[j]? = some (sectOf (hdrOf list.length L.epoch b) (j + 1)) := by
    intro j hj
    rw [List.length_tail] at hj
    rw [List.getElem?_tail]
    unfold cutOf
    rw [List.getElem?_map, List.getElem?_range (by omega)]; rfl
  have htl : (cutOf list.length L.epoch b).tail.length = sectorsOf b.length - 1 := by rw [List.length_tail]; omega
  generalize hB : 2 + L.half * ((D.kept.length - 2) / 2) + total list = B at *
  have f1 : ∀ i, fK (DiskS.keepAll (DiskS.puts (B + 1) (cutOf list.length L.epoch b).tail) D.kept) i = if B + 1 ≤ i ∧ i < B + sectorsOf b.length then sectOf (hdrOf list.length L.epoch b) (i - B) else fK D.kept i := by
    intro i
    rw [fK_keepAll _ _ _ _ (by omega)]
    by_cases hi : B + 1 ≤ i ∧ i < B + sectorsOf b.length
    · rw [if_pos (by omega), if_pos hi, List.getD_eq_getElem?_getD, hgd _ (by omega), show i - (B + 1) + 1 = i - B by omega]; rfl
    · rw [if_neg (by omega), if_neg hi]
  rw [hgt] at hko
  have hk1 : (DiskS.keepAll (DiskS.puts (B + 1) (cutOf list.length L.epoch b).tail) D.kept).length = D.kept.length := DiskS.keepAll_len _ _
  generalize L.keep D (cutOf list.length L.epoch b) = x at *
  rcases hko with ⟨k1, k2, k3, k4, k5⟩ | ⟨k1, k2, k3, k4, k5, k6⟩
  · rw [if_pos k1] at hok ⊢
    refine .inl ⟨rfl, ⟨hok.1, rfl, by rw [total_app]; simp only [total]; omega, hd.dead, k2, k3, ?_⟩, k4, hok.2.size⟩
    dsimp only
    rw [hok.2.size]
    refine r.kept hb (by omega) fun a ha => ?_
    rw [k5, fK_keepAll _ _ _ _ (by rw [hk1]; simp only [List.length_singleton]; omega), f1, hB]
    simp only [List.length_singleton]
    by_cases h1 : a = B
    · subst h1
      rw [if_pos (by omega), if_pos (by omega), Nat.sub_self]; rfl
    · rw [if_neg (by omega)]
      by_cases h2 : B + 1 ≤ a ∧ a < B + sectorsOf b.length
      · rw [if_pos h2, if_pos (by omega)]
      · rw [if_neg h2, if_neg (by omega)]
  · rw [if_neg (by omega)] at hok ⊢
    refine .inr ⟨k1, k2, rfl, hok.2.ok, k3, k4, k5, hok.2.size, ?_⟩
    dsimp only
    rcases k6 with k6 | k6
    · refine ⟨list, .inl rfl, r.torn (all := hdrOf list.length L.epoch b) (k := sectorsOf b.length) (by omega) fun a ha => ?_⟩
      rcases k6.at a with e | ⟨s, m, e⟩
      · exact .inl e
      · obtain ⟨j, j1, j2, j3⟩ := puts_mem _ _ _ _ m
        rw [hgd j j1, Option.some.injEq] at j3
        exact .inr ⟨by omega, by omega, j + 1, by omega, by rw [e, j3]⟩
    · rcases k6.at B with e | ⟨s, m, e⟩
      · refine ⟨list, .inl rfl, r.torn (all := hdrOf list.length L.epoch b) (k := sectorsOf b.length) (by omega) fun a ha => ?_⟩
        have : fK x.2.kept a = fK (DiskS.keepAll (DiskS.puts (B + 1) (cutOf list.length L.epoch b).tail) D.kept) a := by
          rcases k6.at a with e2 | ⟨s, m, e2⟩
          · exact e2
          · obtain ⟨j, j1, j2, j3⟩ := puts_mem _ _ _ _ m
            simp only [List.length_singleton] at j1
            have : a = B := by omega
            rw [this]; exact e
        rw [this, f1]
        by_cases h2 : B + 1 ≤ a ∧ a < B + sectorsOf b.length
        · rw [if_pos h2]
          exact .inr ⟨by omega, by omega, a - B, by omega, rfl⟩
        · rw [if_neg h2]; exact .inl rfl
      · refine ⟨list ++ [b], .inr rfl, r.kept hb (by omega) fun a ha => ?_⟩
        obtain ⟨j, j1, j2, j3⟩ := puts_mem _ _ _ _ m
        simp only [List.length_singleton] at j1
        have j0 : j = 0 := by omega
        subst j0
        simp only [List.getElem?_cons_zero, Option.some.injEq] at j3
        rw [hB]
        by_cases h1 : a = B
        · subst h1
          rw [if_pos (by omega), e, ← j3, Nat.sub_self]
        · have : fK x.2.kept a = fK (DiskS.keepAll (DiskS.puts (B + 1) (cutOf list.length L.epoch b).tail) D.kept) a := by
            rcases k6.at a with e2 | ⟨s, m, e2⟩
            · exact e2
            · obtain ⟨j, j1, j2, j3⟩ := puts_mem _ _ _ _ m
              simp only [List.length_singleton] at j1
              omega
          rw [this, f1]
          by_cases h2 : B + 1 ≤ a ∧ a < B + sectorsOf b.length
          · rw [if_pos h2, if_pos (by omega)]
          · rw [if_neg h2, if_neg (by omega)]
end Go.Proofs.Ytbhlolmglieehaa

/- Logs that are written anew. -/
set_option linter.unusedSimpArgs false
set_option linter.unusedVariables false
namespace Go.Proofs.Ytbhlolmglieehaa

theorem puts_app : ∀ (xs ys : List Bytes) (a : Nat), DiskS.puts a (xs ++ ys) = DiskS.puts a xs ++ DiskS.puts (a + xs.length) ys := by
  intro xs
  induction xs with
  | nil => intro ys a; rfl
  | cons x xs ih =>
    intro ys a
    simp only [List.cons_append, DiskS.puts, ih, List.length_cons]
    rw [show a + 1 + xs.length = a + (xs.length + 1) by omega]

theorem rw_out : ∀ (rs : List Bytes) (L : LogS) (D : DiskS), D.down = false → L.base D L.pos + total rs ≤ D.kept.length →
    ((rw_ L D rs).1 = 0 ∧ (rw_ L D rs).2.1 = { L with pos := L.pos + total rs, list := L.list ++ rs } ∧ (rw_ L D rs).2.2.down = false ∧ (rw_ L D rs).2.2.kept = D.kept ∧
      (rw_ L D rs).2.2.cache = D.cache ++ DiskS.puts (L.base D L.pos) (allSecs L.epoch L.list.length rs) ∧ (D.fate ≤ 0 → (rw_ L D rs).2.2.fate ≤ 0)) ∨
    ((rw_ L D rs).1 = 3 ∧ 0 < D.fate ∧ (rw_ L D rs).2.1.dead = true ∧ (rw_ L D rs).2.2.down = true ∧ (rw_ L D rs).2.2.cache = [] ∧ (rw_ L D rs).2.2.fate = -1 ∧
      Mix D.kept (D.cache ++ DiskS.puts (L.base D L.pos) (allSecs L.epoch L.list.length rs)) (rw_ L D rs).2.2.kept) := by
  intro rs
  induction rs with
  | nil => intro L D hd _; exact .inl ⟨rfl, by simp [rw_, total], hd, rfl, by simp [rw_, allSecs, DiskS.puts], fun h => h⟩
  | cons b r ih =>
    intro L D hd hb
    simp only [total] at hb
    have hcl := cutOf_len L.list.length L.epoch b
    have ho := DiskS.put_out (cutOf L.list.length L.epoch b) hd (L.base D L.pos) (by omega)
    simp only [rw_, allSecs, puts_app, total]
    rw [hcl]
    generalize hss : cutOf L.list.length L.epoch b = ss at *
    generalize D.put (L.base D L.pos) ss = x at *
    rcases ho with ⟨h1, h2, h3, h4, h5⟩ | ⟨h1, h2, h3, h4, h5, h6⟩
    · rw [if_pos h1]
      have hbase : LogS.base { L with pos := L.pos + sectorsOf b.length, list := L.list ++ [b] } x.2 (L.pos + sectorsOf b.length) = L.base D L.pos + sectorsOf b.length := by
        unfold LogS.base; rw [hf_eq (D := D) (D' := x.2) (by rw [h3])]; dsimp only; omega
      have := ih { L with pos := L.pos + sectorsOf b.length, list := L.list ++ [b] } x.2 h2 (by dsimp only; rw [hbase, h3]; omega)
      dsimp only at this
      rw [hbase, h3, h4] at this
      simp only [List.length_append, List.length_singleton, List.append_assoc, List.singleton_append] at this
      rcases this with ⟨g1, g2, g3, g4, g5, g6⟩ | ⟨g1, g2, g3, g4, g5, g6, g7⟩
      · exact .inl ⟨g1, by rw [g2, Nat.add_assoc], g3, g4, g5, fun h => g6 (h5 h)⟩
      · refine .inr ⟨g1, ?_, g3, g4, g5, g6, g7⟩
        rcases Int.lt_or_le 0 D.fate with q | q
        · exact q
        · have := h5 q; omega
    · rw [if_neg (by omega)]
      refine .inr ⟨h1, h2, rfl, h3, h4, h5, h6.mono fun y hy => ?_⟩
      rw [← List.append_assoc]
      exact List.mem_append_left _ hy

theorem finish_out {L : LogS} {D : DiskS} (hd : D.down = false) (hh : L.half < D.kept.length) :
    ((finish L D).1 = 0 ∧ (finish L D).2.down = false ∧ (finish L D).2.cache = [] ∧ (D.fate ≤ 0 → (finish L D).2.fate ≤ 0) ∧ (finish L D).2.kept = (DiskS.keepAll D.cache D.kept).set L.half (headSect L.epoch)) ∨
    ((finish L D).1 = 3 ∧ 0 < D.fate ∧ (finish L D).2.down = true ∧ (finish L D).2.cache = [] ∧ (finish L D).2.fate = -1 ∧
      (Mix D.kept D.cache (finish L D).2.kept ∨ Mix (DiskS.keepAll D.cache D.kept) [(L.half, headSect L.epoch)] (finish L D).2.kept)) := by
  have hk : (DiskS.keepAll D.cache D.kept).length = D.kept.length := DiskS.keepAll_len _ _
  have ho := DiskS.flush_out hd
  unfold finish
  generalize D.flush = x at *
  rcases ho with ⟨h1, h2, h3, h4, h5⟩ | ⟨h1, h2, h3, h4, h5, h6⟩
  · rw [andThen_ok h1]
    have hw := DiskS.write_out h2 (show L.half < x.2.kept.length by rw [h3, hk]; exact hh) (headSect L.epoch)
    rw [h4, List.nil_append, h3] at hw
    generalize x.2.write (L.half : Int) (headSect L.epoch) = y at *
    rcases hw with ⟨g1, g2, g3, g4, g5⟩ | ⟨g1, g2, g3, g4, g5, g6⟩
    · rw [andThen_ok g1]
      have hf := DiskS.flush_out g2
      rw [g3, g4] at hf
      generalize y.2.flush = z at *
      rcases hf with ⟨f1, f2, f3, f4, f5⟩ | ⟨f1, f2, f3, f4, f5, f6⟩
      · exact .inl ⟨f1, f2, f4, fun h => f5 (g5 (h5 h)), f3⟩
      · refine .inr ⟨f1, ?_, f3, f4, f5, .inr (by rw [g3] at f6; exact f6)⟩
        rcases Int.lt_or_le 0 D.fate with q | q
        · exact q
        · have := g5 (h5 q); omega
    · rw [andThen_bad (by omega)]
      refine .inr ⟨g1, ?_, g3, g4, g5, .inr (by rw [h3] at g6; exact g6)⟩
      rcases Int.lt_or_le 0 D.fate with q | q
      · exact q
      · have := h5 q; omega
  · rw [andThen_bad (by omega)]
    exact .inr ⟨h1, h2, h3, h4, h5, .inl h6⟩

theorem fK_set {K : List Bytes} {i : Nat} {s : Bytes} (h : i < K.length) (a : Nat) : fK (K.set i s) a = if a = i then s else fK K a := by
  unfold fK
  rw [List.getD_eq_getElem?_getD, List.getElem?_set]
  by_cases e : a = i
  · subst e; rw [if_pos rfl, if_pos h, if_pos rfl]; rfl
  · rw [if_neg (fun x => e x.symm), if_neg e, List.getD_eq_getElem?_getD]

theorem rewrite_out {L : LogS} {D : DiskS} (ok : L.Ok D) (hdead : L.dead = false) (hd : D.down = false) (hc : D.cache = []) {bss : List Bytes} (h4 : ∀ b ∈ bss, b.length ≤ 4096) (hroom : total bss ≤ D.hf) (ht : L.top + 1 ≤ 2147483648)
    (htops : ∀ a, 2 ≤ a → a < D.kept.length → (fK D.kept a)[0]? = some 2 → ep (fK D.kept a) ≤ L.top) (hheads : ∀ a, a < 2 → (goodOf (fK D.kept a)).2 = true → (goodOf (fK D.kept a)).1 ≤ L.top) :
    ((L.rewrite D bss).1 = 0 ∧ Held (L.rewrite D bss).2.1 (L.rewrite D bss).2.2 bss ∧ (D.fate ≤ 0 → (L.rewrite D bss).2.2.fate ≤ 0) ∧ (L.rewrite D bss).2.2.kept.length = D.kept.length ∧ (L.rewrite D bss).2.1.top = L.top + 1) ∨
    ((L.rewrite D bss).1 = 3 ∧ 0 < D.fate ∧ (L.rewrite D bss).2.1.dead = true ∧ (L.rewrite D bss).2.2.Ok ∧ (L.rewrite D bss).2.2.down = true ∧ (L.rewrite D bss).2.2.cache = [] ∧ (L.rewrite D bss).2.2.fate = -1 ∧ (L.rewrite D bss).2.2.kept.length = D.kept.length ∧
      (Rep (fK (L.rewrite D bss).2.2.kept) D.kept.length (L.top + 1) (1 - L.half) bss (L.top + 1) ∨
       ∀ a, a < D.kept.length → fK (L.rewrite D bss).2.2.kept a = fK D.kept a ∨ (2 + (1 - L.half) * ((D.kept.length - 2) / 2) ≤ a ∧ a < 2 + (1 - L.half) * ((D.kept.length - 2) / 2) + total bss ∧ fK (L.rewrite D bss).2.2.kept a ∈ allSecs (L.top + 1) 0 bss))) := by
  have hrok := LogS.rewrite_ok ok (by omega) (by rw [hc]; simp) bss
  have h6 := ok.size
  have hsz := ok.disk.size
  have hhf : D.hf = (D.kept.length - 2) / 2 := rfl
  have hh1 : 1 - L.half ≤ 1 := by omega
  have hm : (1 - L.half) * ((D.kept.length - 2) / 2) ≤ (D.kept.length - 2) / 2 := by have := Nat.mul_le_mul_right ((D.kept.length - 2) / 2) hh1; omega
  have hbase : L.anew.base D L.anew.pos = 2 + (1 - L.half) * ((D.kept.length - 2) / 2) := by unfold LogS.base LogS.anew; rw [hhf]; rfl
  have hrw := rw_out bss L.anew D hd (by rw [hbase]; omega)
  have hfin := fun D1 => @finish_out (rw_ L.anew D bss).2.1 D1
  have hno : ¬ ∃ b ∈ bss, 4096 < b.length := by rintro ⟨b, hb, h⟩; have := h4 b hb; omega
  have hlen : ∀ a, a < D.kept.length → (fK D.kept a).length = 64 := fun a ha => by
    unfold fK; rw [List.getD_eq_getElem?_getD, List.getElem?_eq_getElem ha]; exact ok.disk.kept _ (List.getElem_mem _)
  unfold LogS.rewrite at hrok ⊢
  rw [if_neg (by simp [hdead]), if_neg hno, if_neg (by omega)] at hrok ⊢
  rw [hbase, hc, List.nil_append] at hrw
  rw [show L.anew.epoch = L.top + 1 from rfl, show L.anew.list.length = 0 from rfl] at hrw
  generalize hB : 2 + (1 - L.half) * ((D.kept.length - 2) / 2) = B at *
  have hal := allSecs_len (L.top + 1) bss 0
  have hin : ∀ j, j < total bss → (allSecs (L.top + 1) 0 bss).getD j [] ∈ allSecs (L.top + 1) 0 bss := fun j hj => by
    rw [List.getD_eq_getElem?_getD, List.getElem?_eq_getElem (by omega)]; exact List.getElem_mem _
  have torn : ∀ K', Mix D.kept (DiskS.puts B (allSecs (L.top + 1) 0 bss)) K' → ∀ a, a < D.kept.length → fK K' a = fK D.kept a ∨ (B ≤ a ∧ a < B + total bss ∧ fK K' a ∈ allSecs (L.top + 1) 0 bss) := by
    intro K' hmix a ha
    rcases hmix.at a with e | ⟨s, m, e⟩
    · exact .inl e
    · obtain ⟨j, j1, j2, j3⟩ := puts_mem _ _ _ _ m
      exact .inr ⟨by omega, by omega, by rw [e]; exact List.mem_of_getElem? j3⟩
  generalize rw_ L.anew D bss = x at *
  unfold endRw at hrok ⊢
  rcases hrw with ⟨r1, r2, r3, r4, r5, r6⟩ | ⟨r1, r2, r3, r4, r5, r6, r7⟩
  · rw [if_pos r1] at hrok ⊢
    have hxh : x.2.1.half = 1 - L.half ∧ x.2.1.epoch = L.top + 1 ∧ x.2.1.dead = false ∧ x.2.1.list = bss ∧ x.2.1.pos = total bss ∧ x.2.1.top = L.top + 1 := by
      rw [r2]; exact ⟨rfl, rfl, hdead, rfl, by simp [LogS.anew], rfl⟩
    obtain ⟨x1, x2, x3, x4, x5, x6⟩ := hxh
    have hf := hfin x.2.2 r3 (by rw [x1, r4]; omega)
    rw [r4, r5, x1, x2] at hf
    have hkl : (DiskS.keepAll (DiskS.puts B (allSecs (L.top + 1) 0 bss)) D.kept).length = D.kept.length := DiskS.keepAll_len _ _
    have fa : ∀ i, fK (DiskS.keepAll (DiskS.puts B (allSecs (L.top + 1) 0 bss)) D.kept) i = if B ≤ i ∧ i < B + total bss then (allSecs (L.top + 1) 0 bss).getD (i - B) [] else fK D.kept i := by
      intro i; rw [fK_keepAll _ _ _ _ (by omega), hal]
    have new : ∀ K', (∀ a, a < D.kept.length → fK K' a = if a = 1 - L.half then headSect (L.top + 1) else fK (DiskS.keepAll (DiskS.puts B (allSecs (L.top + 1) 0 bss)) D.kept) a) → Rep (fK K') D.kept.length (L.top + 1) (1 - L.half) bss (L.top + 1) := by
      intro K' hK
      refine Rep.anew (f := fK D.kept) ⟨h6, hsz.2⟩ hh1 ht h4 (by omega) hlen htops hheads fun a ha => ?_
      rw [hK a ha, fa, hB]
      by_cases e : a = 1 - L.half
      · rw [if_pos e, if_neg (by omega), if_pos e]
      · rw [if_neg e, if_neg e]
    rcases hf with ⟨g1, g2, g3, g5, g4⟩ | ⟨g1, g2, g3, g4, g5, g6⟩
    · refine .inl ⟨g1, ⟨hrok.1, x4, x5, by dsimp only; rw [x3, g1]; rfl, g2, g3, ?_⟩, fun h => g5 (r6 h), hrok.2.1.size, x6⟩
      dsimp only
      rw [hrok.2.1.size, x2, x1, x6]
      exact new _ fun a ha => by rw [g4, fK_set (by rw [hkl]; omega)]
    · refine .inr ⟨g1, ?_, by dsimp only; rw [g1, x3]; rfl, hrok.2.1.ok, g3, g4, g5, hrok.2.1.size, ?_⟩
      · rcases Int.lt_or_le 0 D.fate with q | q
        · exact q
        · have := r6 q; omega
      dsimp only
      rcases g6 with g6 | g6
      · exact .inr (torn _ g6)
      · rcases g6.at (1 - L.half) with e | ⟨s, m, e⟩
        · refine .inr fun a ha => ?_
          have : fK (finish x.2.1 x.2.2).2.kept a = fK (DiskS.keepAll (DiskS.puts B (allSecs (L.top + 1) 0 bss)) D.kept) a := by
            rcases g6.at a with e2 | ⟨s, m, e2⟩
            · exact e2
            · rw [List.mem_singleton, Prod.mk.injEq] at m
              rw [m.1]; exact e
          rw [this, fa]
          by_cases hc : B ≤ a ∧ a < B + total bss
          · rw [if_pos hc]; exact .inr ⟨hc.1, hc.2, hin _ (by omega)⟩
          · rw [if_neg hc]; exact .inl rfl
        · refine .inl (new _ fun a ha => ?_)
          rw [List.mem_singleton, Prod.mk.injEq] at m
          by_cases h1 : a = 1 - L.half
          · rw [if_pos h1, h1, e, m.2]
          · rw [if_neg h1]
            rcases g6.at a with e2 | ⟨s, m, e2⟩
            · exact e2
            · rw [List.mem_singleton, Prod.mk.injEq] at m
              exact absurd m.1 h1
  · rw [if_neg (by omega)] at hrok ⊢
    exact .inr ⟨r1, r2, r3, hrok.2.1.ok, r4, r5, r6, hrok.2.1.size, .inr (torn _ r7)⟩
end Go.Proofs.Ytbhlolmglieehaa

/- A new disk, and one whose power went. -/
set_option linter.unusedSimpArgs false
set_option linter.unusedVariables false
namespace Go.Proofs.Ytbhlolmglieehaa

def zsec : Bytes := List.replicate 64 0
theorem good_zero : goodOf zsec = (0, false) := by unfold goodOf zsec; rw [if_pos rfl]
theorem look_zero (t : Nat) : lookStep zsec t = t := by unfold lookStep; rw [if_neg (by decide)]

theorem lookN_zero (D : DiskS) : ∀ (n a t : Nat), (∀ b, a ≤ b → b < a + n → D.at_ b = zsec) → lookN D n a t = t := by
  intro n
  induction n with
  | zero => intro a t _; rfl
  | succ n ih =>
    intro a t h
    simp only [lookN]
    rw [h a (Nat.le_refl _) (by omega), look_zero]
    exact ih (a + 1) t fun b h1 h2 => h b (by omega) (by omega)

theorem new_ok {n : Nat} (hn : 1 ≤ n ∧ n ≤ 4096) : (DiskS.new n).Ok ∧ (DiskS.new n).kept.length = n := by
  have hl : (DiskS.new n).kept.length = n := by unfold DiskS.new; simp only [List.length_replicate]; omega
  refine ⟨⟨fun s hs => ?_, fun e he => (by cases he), by omega, (show 0 < 2 ^ 64 by decide), by simp [DiskS.new], (show -9223372036854775808 ≤ (-1 : Int) ∧ (-1 : Int) < 9223372036854775808 by decide)⟩, hl⟩
  unfold DiskS.new at hs
  rw [List.eq_of_mem_replicate hs]; rfl

theorem new_at {n : Nat} (hn : 1 ≤ n ∧ n ≤ 4096) {a : Nat} (ha : a < n) : fK (DiskS.new n).kept a = zsec := by
  unfold fK DiskS.new
  simp only
  rw [List.getD_eq_getElem?_getD, List.getElem?_replicate, if_pos (by omega)]; rfl

/-- what is opened on a new disk -/
theorem new_open {n : Nat} (hn : 6 ≤ n ∧ n ≤ 4096) : ∃ L D, openS (DiskS.new n) = (0, some L, D) ∧ Held L D [] ∧ L.top = 1 ∧ D.fate ≤ 0 ∧ D.kept.length = n := by
  obtain ⟨hok, hl⟩ := new_ok (n := n) (by omega)
  have hat : (DiskS.new n).at_ = fK (DiskS.new n).kept := at_nil rfl
  have hz : ∀ a, a < n → (DiskS.new n).at_ a = zsec := fun a ha => by rw [hat]; exact new_at (by omega) ha
  have hhd : headS (DiskS.new n) = mkL 0 0 := by
    unfold headS
    simp only [headN]
    rw [hz 0 (by omega), hz (0 + 1) (by omega), good_zero]
    rfl
  have hlk : lookS (DiskS.new n) = ⟨0, 0, 0, 0, [], false⟩ := by
    unfold lookS
    rw [hhd, lookN_zero _ _ _ _ (fun b h1 h2 => hz b (by omega))]
    rfl
  have hhf : (DiskS.new n).hf = (n - 2) / 2 := by unfold DiskS.hf; rw [hl]
  have lok : LogS.Ok ⟨0, 0, 0, 0, [], false⟩ (DiskS.new n) := ⟨by decide, Nat.zero_le _, by decide, by decide, Nat.le_refl _, hok, by omega⟩
  have hr := rewrite_out lok rfl rfl rfl (bss := []) (by simp) (Nat.zero_le _) (by decide)
    (fun a h1 h2 h3 => by rw [new_at (by omega) (by omega)] at h3; exact absurd h3 (by decide))
    (fun a h1 h2 => by rw [new_at (by omega) (by omega), good_zero] at h2; cases h2)
  unfold openS
  rw [if_neg (by omega), hhd, if_pos (show (mkL 0 0).epoch = 0 from rfl), hlk]
  generalize LogS.rewrite ⟨0, 0, 0, 0, [], false⟩ (DiskS.new n) [] = r at *
  rcases hr with ⟨h1, h2, h3, h4, h5⟩ | ⟨_, h2, _⟩
  · rw [if_pos h1]
    exact ⟨_, _, rfl, h2, h5, h3 (show (-1 : Int) ≤ 0 by decide), by omega⟩
  · exact absurd h2 (show ¬ (0 : Int) < -1 by decide)

/-- a disk that bears a log -/
structure Bears (D : DiskS) (rs : List Bytes) (T : Nat) : Prop where
  ok : D.Ok
  cache : D.cache = []
  rep : ∃ e h, Rep (fK D.kept) D.kept.length e h rs T

theorem Held.bears {L : LogS} {D : DiskS} {rs : List Bytes} (h : Held L D rs) : Bears D rs L.top := ⟨h.ok.disk, h.cache, _, _, h.rep⟩

theorem Bears.crash {D : DiskS} {rs : List Bytes} {T : Nat} (h : Bears D rs T) (keeps : Nat) : Bears (D.crash keeps) rs T ∧ (D.crash keeps).kept = D.kept := by
  have : (D.crash keeps).kept = D.kept := by unfold DiskS.crash; rw [h.cache]; rfl
  exact ⟨⟨h.ok.crash keeps, rfl, by rw [this]; exact h.rep⟩, this⟩

theorem Ok.on {D : DiskS} (h : D.Ok) : ({ D with down := false } : DiskS).Ok := ⟨h.kept, h.cache, h.size, h.keeps, h.few, h.fate⟩
theorem Ok.plan {D : DiskS} (h : D.Ok) {n : Int} {k : Nat} (hn : -9223372036854775808 ≤ n ∧ n < 9223372036854775808) (hk : k < 2 ^ 64) : (D.plan n k).Ok := ⟨h.kept, h.cache, h.size, hk, h.few, hn⟩

theorem Bears.on {D : DiskS} {rs : List Bytes} {T : Nat} (h : Bears D rs T) : Bears { D with down := false } rs T := ⟨Ok.on h.ok, h.cache, h.rep⟩

theorem Bears.open_ {D : DiskS} {rs : List Bytes} {T : Nat} (h : Bears D rs T) (hd : D.down = false) : ∃ L, openS D = (0, some L, D) ∧ Held L D rs ∧ L.top ≤ T := by
  obtain ⟨e, hh, r⟩ := h.rep
  obtain ⟨L, h1, h2, h3, _, _⟩ := open_held h.ok hd h.cache r
  exact ⟨L, h1, h2, h3⟩

theorem Held.plan {L : LogS} {D : DiskS} {rs : List Bytes} (h : Held L D rs) {n : Int} {k : Nat} (hn : -9223372036854775808 ≤ n ∧ n < 9223372036854775808) (hk : k < 2 ^ 64) : Held L (D.plan n k) rs :=
  ⟨⟨h.ok.half, h.ok.pos, h.ok.epoch, h.ok.top, h.ok.list, Ok.plan h.ok.disk hn hk, h.ok.size⟩, h.list, h.pos, h.dead, h.down, h.cache, h.rep⟩

/-- a log that is held is written anew -/
theorem rewrite_held {L : LogS} {D : DiskS} {rs bss : List Bytes} (h : Held L D rs) (h4 : ∀ b ∈ bss, b.length ≤ 4096) (hroom : total bss ≤ D.hf) (ht : L.top + 1 ≤ 2147483648) :
    ((L.rewrite D bss).1 = 0 ∧ Held (L.rewrite D bss).2.1 (L.rewrite D bss).2.2 bss ∧ (D.fate ≤ 0 → (L.rewrite D bss).2.2.fate ≤ 0) ∧ (L.rewrite D bss).2.2.kept.length = D.kept.length ∧ (L.rewrite D bss).2.1.top = L.top + 1) ∨
    ((L.rewrite D bss).1 = 3 ∧ 0 < D.fate ∧ (L.rewrite D bss).2.2.down = true ∧ (L.rewrite D bss).2.2.fate = -1 ∧ (L.rewrite D bss).2.2.kept.length = D.kept.length ∧ ∃ l', (l' = rs ∨ l' = bss) ∧ Bears (L.rewrite D bss).2.2 l' (L.top + 1)) := by
  have r := h.rep
  have hh := r.half
  have hee := r.epoch
  have hgh : goodOf (fK D.kept L.half) = ((L.epoch : Int), true) := by rw [r.head]; exact good_head (by have := r.top; omega)
  have hheads : ∀ a, a < 2 → (goodOf (fK D.kept a)).2 = true → (goodOf (fK D.kept a)).1 ≤ L.top := by
    intro a ha hg
    by_cases e : a = L.half
    · rw [e, hgh]; dsimp only; omega
    · have e2 : a = 1 - L.half := by omega
      rw [e2] at hg ⊢
      have := r.other hg; omega
  rcases rewrite_out h.ok h.dead h.down h.cache h4 hroom ht r.tops hheads with ⟨h1, h2, h3, h5, h6⟩ | ⟨h1, h2, h3, h5, h6, h7, h8, h9, h10⟩
  · exact .inl ⟨h1, h2, h3, h5, h6⟩
  · refine .inr ⟨h1, h2, h6, h8, h9, ?_⟩
    rcases h10 with h10 | h10
    · exact ⟨bss, .inr rfl, h5, h7, _, _, by rw [h9]; exact h10⟩
    · have := r.tornAnew (t := L.top) ht (by exact hroom) h10
      rw [show max L.top (L.top + 1) = L.top + 1 by omega] at this
      exact ⟨rs, .inl rfl, h5, h7, _, _, by rw [h9]; exact this⟩
end Go.Proofs.Ytbhlolmglieehaa
