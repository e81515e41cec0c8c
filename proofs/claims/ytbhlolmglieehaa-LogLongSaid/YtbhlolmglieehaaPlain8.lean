/- A new disk, and one whose power went. -/
import Derived.Test.YtbhlolmglieehaaPlain7
set_option linter.unusedSimpArgs false
set_option linter.unusedVariables false
namespace Go.Proofs.Ytbhlolmglieehaa

def zsec : Bytes := List.replicate 64 0
theorem good_zero : goodOf zsec = (0, false) := by unfold goodOf zsec; rw [if_pos rfl]
theorem look_zero (t : Nat) : lookStep zsec t = t := by unfold lookStep; rw [if_neg (by decide)]

theorem lookN_zero (D : DiskS) : ∀ (n a t : Nat), (∀ b, a ≤ b → b < a + n → D.at_ b = zsec) → lookN D n a t = t := by
  intro n
  induction n with
  | zero => intro a t _; rfl
  | succ n ih =>
    intro a t h
    simp only [lookN]
    rw [h a (Nat.le_refl _) (by omega), look_zero]
    exact ih (a + 1) t fun b h1 h2 => h b (by omega) (by omega)

theorem new_ok {n : Nat} (hn : 1 ≤ n ∧ n ≤ 4096) : (DiskS.new n).Ok ∧ (DiskS.new n).kept.length = n := by
  have hl : (DiskS.new n).kept.length = n := by unfold DiskS.new; simp only [List.length_replicate]; omega
  refine ⟨⟨fun s hs => ?_, fun e he => (by cases he), by omega, (show 0 < 2 ^ 64 by decide), by simp [DiskS.new], (show -9223372036854775808 ≤ (-1 : Int) ∧ (-1 : Int) < 9223372036854775808 by decide)⟩, hl⟩
  unfold DiskS.new at hs
  rw [List.eq_of_mem_replicate hs]; rfl

theorem new_at {n : Nat} (hn : 1 ≤ n ∧ n ≤ 4096) {a : Nat} (ha : a < n) : fK (DiskS.new n).kept a = zsec := by
  unfold fK DiskS.new
  simp only
  rw [List.getD_eq_getElem?_getD, List.getElem?_replicate, if_pos (by omega)]; rfl

/-- what is opened on a new disk -/
theorem new_open {n : Nat} (hn : 6 ≤ n ∧ n ≤ 4096) : ∃ L D, openS (DiskS.new n) = (0, some L, D) ∧ Held L D [] ∧ L.top = 1 ∧ D.fate ≤ 0 ∧ D.kept.length = n := by
  obtain ⟨hok, hl⟩ := new_ok (n := n) (by omega)
  have hat : (DiskS.new n).at_ = fK (DiskS.new n).kept := at_nil rfl
  have hz : ∀ a, a < n → (DiskS.new n).at_ a = zsec := fun a ha => by rw [hat]; exact new_at (by omega) ha
  have hhd : headS (DiskS.new n) = mkL 0 0 := by
    unfold headS
    simp only [headN]
    rw [hz 0 (by omega), hz (0 + 1) (by omega), good_zero]
    rfl
  have hlk : lookS (DiskS.new n) = ⟨0, 0, 0, 0, [], false⟩ := by
    unfold lookS
    rw [hhd, lookN_zero _ _ _ _ (fun b h1 h2 => hz b (by omega))]
    rfl
  have hhf : (DiskS.new n).hf = (n - 2) / 2 := by unfold DiskS.hf; rw [hl]
  have lok : LogS.Ok ⟨0, 0, 0, 0, [], false⟩ (DiskS.new n) := ⟨by decide, Nat.zero_le _, by decide, by decide, Nat.le_refl _, hok, by omega⟩
  have hr := rewrite_out lok rfl rfl rfl (bss := []) (by simp) (Nat.zero_le _) (by decide)
    (fun a h1 h2 h3 => by rw [new_at (by omega) (by omega)] at h3; exact absurd h3 (by decide))
    (fun a h1 h2 => by rw [new_at (by omega) (by omega), good_zero] at h2; cases h2)
  unfold openS
  rw [if_neg (by omega), hhd, if_pos (show (mkL 0 0).epoch = 0 from rfl), hlk]
  generalize LogS.rewrite ⟨0, 0, 0, 0, [], false⟩ (DiskS.new n) [] = r at *
  rcases hr with ⟨h1, h2, h3, h4, h5⟩ | ⟨_, h2, _⟩
  · rw [if_pos h1]
    exact ⟨_, _, rfl, h2, h5, h3 (show (-1 : Int) ≤ 0 by decide), by omega⟩
  · exact absurd h2 (show ¬ (0 : Int) < -1 by decide)

/-- a disk that bears a log -/
structure Bears (D : DiskS) (rs : List Bytes) (T : Nat) : Prop where
  ok : D.Ok
  cache : D.cache = []
  rep : ∃ e h, Rep (fK D.kept) D.kept.length e h rs T

theorem Held.bears {L : LogS} {D : DiskS} {rs : List Bytes} (h : Held L D rs) : Bears D rs L.top := ⟨h.ok.disk, h.cache, _, _, h.rep⟩

theorem Bears.crash {D : DiskS} {rs : List Bytes} {T : Nat} (h : Bears D rs T) (keeps : Nat) : Bears (D.crash keeps) rs T ∧ (D.crash keeps).kept = D.kept := by
  have : (D.crash keeps).kept = D.kept := by unfold DiskS.crash; rw [h.cache]; rfl
  exact ⟨⟨h.ok.crash keeps, rfl, by rw [this]; exact h.rep⟩, this⟩

theorem Ok.on {D : DiskS} (h : D.Ok) : ({ D with down := false } : DiskS).Ok := ⟨h.kept, h.cache, h.size, h.keeps, h.few, h.fate⟩
theorem Ok.plan {D : DiskS} (h : D.Ok) {n : Int} {k : Nat} (hn : -9223372036854775808 ≤ n ∧ n < 9223372036854775808) (hk : k < 2 ^ 64) : (D.plan n k).Ok := ⟨h.kept, h.cache, h.size, hk, h.few, hn⟩

theorem Bears.on {D : DiskS} {rs : List Bytes} {T : Nat} (h : Bears D rs T) : Bears { D with down := false } rs T := ⟨Ok.on h.ok, h.cache, h.rep⟩

theorem Bears.open_ {D : DiskS} {rs : List Bytes} {T : Nat} (h : Bears D rs T) (hd : D.down = false) : ∃ L, openS D = (0, some L, D) ∧ Held L D rs ∧ L.top ≤ T := by
  obtain ⟨e, hh, r⟩ := h.rep
  obtain ⟨L, h1, h2, h3, _, _⟩ := open_held h.ok hd h.cache r
  exact ⟨L, h1, h2, h3⟩

theorem Held.plan {L : LogS} {D : DiskS} {rs : List Bytes} (h : Held L D rs) {n : Int} {k : Nat} (hn : -9223372036854775808 ≤ n ∧ n < 9223372036854775808) (hk : k < 2 ^ 64) : Held L (D.plan n k) rs :=
  ⟨⟨h.ok.half, h.ok.pos, h.ok.epoch, h.ok.top, h.ok.list, Ok.plan h.ok.disk hn hk, h.ok.size⟩, h.list, h.pos, h.dead, h.down, h.cache, h.rep⟩

/-- a log that is held is written anew -/
theorem rewrite_held {L : LogS} {D : DiskS} {rs bss : List Bytes} (h : Held L D rs) (h4 : ∀ b ∈ bss, b.length ≤ 4096) (hroom : total bss ≤ D.hf) (ht : L.top + 1 ≤ 2147483648) :
    ((L.rewrite D bss).1 = 0 ∧ Held (L.rewrite D bss).2.1 (L.rewrite D bss).2.2 bss ∧ (D.fate ≤ 0 → (L.rewrite D bss).2.2.fate ≤ 0) ∧ (L.rewrite D bss).2.2.kept.length = D.kept.length ∧ (L.rewrite D bss).2.1.top = L.top + 1) ∨
    ((L.rewrite D bss).1 = 3 ∧ 0 < D.fate ∧ (L.rewrite D bss).2.2.down = true ∧ (L.rewrite D bss).2.2.fate = -1 ∧ (L.rewrite D bss).2.2.kept.length = D.kept.length ∧ ∃ l', (l' = rs ∨ l' = bss) ∧ Bears (L.rewrite D bss).2.2 l' (L.top + 1)) := by
  have r := h.rep
  have hh := r.half
  have hee := r.epoch
  have hgh : goodOf (fK D.kept L.half) = ((L.epoch : Int), true) := by rw [r.head]; exact good_head (by have := r.top; omega)
  have hheads : ∀ a, a < 2 → (goodOf (fK D.kept a)).2 = true → (goodOf (fK D.kept a)).1 ≤ L.top := by
    intro a ha hg
    by_cases e : a = L.half
    · rw [e, hgh]; dsimp only; omega
    · have e2 : a = 1 - L.half := by omega
      rw [e2] at hg ⊢
      have := r.other hg; omega
  rcases rewrite_out h.ok h.dead h.down h.cache h4 hroom ht r.tops hheads with ⟨h1, h2, h3, h5, h6⟩ | ⟨h1, h2, h3, h5, h6, h7, h8, h9, h10⟩
  · exact .inl ⟨h1, h2, h3, h5, h6⟩
  · refine .inr ⟨h1, h2, h6, h8, h9, ?_⟩
    rcases h10 with h10 | h10
    · exact ⟨bss, .inr rfl, h5, h7, _, _, by rw [h9]; exact h10⟩
    · have := r.tornAnew (t := L.top) ht (by exact hroom) h10
      rw [show max L.top (L.top + 1) = L.top + 1 by omega] at this
      exact ⟨rs, .inl rfl, h5, h7, _, _, by rw [h9]; exact this⟩
end Go.Proofs.Ytbhlolmglieehaa
