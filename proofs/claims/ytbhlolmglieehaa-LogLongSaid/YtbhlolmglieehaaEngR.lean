/- Slices that grow: owned, with what room they have. -/
import Derived.Test.YtbhlolmglieehaaEngQ
set_option linter.unusedSimpArgs false
set_option linter.unusedVariables false
namespace Go.Proofs.Ytbhlolmglieehaa
namespace Eng

/-- a slice of n elements (s cells each) that owns its array, or a nil one -/
def OwnI (a : Option Addr) (n c s : Nat) (T : TypeId) (xs : List Value) (G : List HA) : Prop :=
  xs.length = n * s ∧ ((a = none ∧ n = 0 ∧ c = 0 ∧ G = []) ∨ ∃ b spare, a = some ⟨b, 0, none⟩ ∧ n ≤ c ∧ (xs ++ spare).length = c * s ∧ G = [.pt b (.cells (xs ++ spare).toArray T (0, 0))])

def OwnS (a : Option Addr) (n c s : Nat) (T : TypeId) (xs : List Value) : HA := grp (OwnI a n c s T xs)

theorem own_nil {s : Nat} {T : TypeId} : OwnI none 0 0 s T [] [] := ⟨by simp, .inl ⟨rfl, rfl, rfl, rfl⟩⟩

theorem shows_pt {F : Hp} {H : List HA} {b o m s c : Nat} {L ys : List Value} {T : TypeId} {fz : Nat × Nat} (m0 : HA.pt b (.cells L.toArray T fz) ∈ H) (hl : o + m * s ≤ L.length) (hy : ys = (L.drop o).take (m * s)) :
    ∀ w h, seps H h → Fits F h w → shows w s m (.slice (some ⟨b, o, none⟩) m c) ys :=
  fun _ _ q f => .inr ⟨rfl, L, T, fz, f.own _ _ (seps_mem_pt m0 q), hl, hy⟩

theorem shows_F {F : Hp} {H : List HA} {b o m s c : Nat} {L ys : List Value} {T : TypeId} {fz : Nat × Nat} (m0 : F b = some (.cells L.toArray T fz)) (hl : o + m * s ≤ L.length) (hy : ys = (L.drop o).take (m * s)) :
    ∀ w h, seps H h → Fits F h w → shows w s m (.slice (some ⟨b, o, none⟩) m c) ys :=
  fun _ _ _ f => .inr ⟨rfl, L, T, fz, f.frm _ _ m0, hl, hy⟩

section
variable {P : Program} {F : Hp} {l : Fr} {H : List HA} {C : Fr → List HA → Prop} {es : List EG} {i d : Nat}

theorem busyApp {x y : Operand} {a : Option Addr} {n c m bytes : Nat} {T : TypeId} {z xs ys : List Value} {u : Value} {H' : List HA} (hx : get l x = some (.slice a n c)) (hy : get l y = some u) (hm : lenV u = some m)
    (own : Sel H (OwnS a n c z.length T xs) H') (sh : ∀ w h, seps H' h → Fits F h w → shows w z.length m u ys) (h1 : oneCells ys) (hlen : ys.length = m * z.length) (hz : 0 < z.length) (hb : (2 * (n + m) + 1024) * bytes ≤ 2 ^ 48) :
    BusyAt P F (.app T z bytes x y) l H fun v M => ∃ a' c', v = .slice a' (n + m) c' ∧ M = OwnS a' (n + m) c' z.length T (xs ++ ys) :: H' := by
  intro w h ρ ag q f
  obtain ⟨h0, hr, sp, ⟨G, ⟨hxs, hG⟩, qG⟩, qr⟩ := own.sound q
  have hshow := sh w h (seps_up qr sp) f
  have hadd : (n + m) * z.length = n * z.length + m * z.length := Nat.add_mul _ _ _
  -- a new array
  have grown : ∀ (hroom : ¬ n + m ≤ c) (old : shows w z.length n (ρ x) xs), EOp.wp P ρ w (Post P F w fun v M => ∃ a' c', v = .slice a' (n + m) c' ∧ M = OwnS a' (n + m) c' z.length T (xs ++ ys) :: H') (.app T z bytes x y) := by
    intro hroom old
    refine ⟨a, n, c, m, ys, ag _ _ hx, by rw [ag _ _ hy]; exact hm, by rw [ag _ _ hy]; exact hshow, ?_⟩
    rw [if_neg hroom]
    refine ⟨xs, old, hb, fun c' hc' => ?_⟩
    have f2 := f.drew.new (.cells (xs ++ ys ++ zerosL z (c' - (n + m))).toArray T (0, 0))
    have hfresh : h w.heap.size = none := f.fresh.1
    refine ⟨_, upd h w.heap.size (.cells (xs ++ ys ++ zerosL z (c' - (n + m))).toArray T (0, 0)), ⟨_, c', rfl, rfl⟩, ?_, f2, ⟨rfl, rfl, rfl, by simp [newBlk]⟩⟩
    obtain ⟨h1', h2', sp', p1, p2⟩ := seps_new (.cells (xs ++ ys ++ zerosL z (c' - (n + m))).toArray T (0, 0)) (seps_up qr sp) hfresh
    have hzl : (zerosL z (c' - (n + m))).length = (c' - (n + m)) * z.length := by
      simp [zerosL]
    refine ⟨h1', h2', sp', ⟨[.pt w.heap.size (.cells (xs ++ ys ++ zerosL z (c' - (n + m))).toArray T (0, 0))], ⟨by simp [hxs, hlen, hadd], .inr ⟨w.heap.size, zerosL z (c' - (n + m)), rfl, hc', ?_, rfl⟩⟩, ?_⟩, p2⟩
    · simp only [List.length_append, hxs, hlen, hzl]
      rw [← hadd, ← Nat.add_mul]; congr 1; omega
    · exact ⟨h1', noHp, ⟨fun _ => .inr rfl, fun n => by simp [noHp]⟩, p1, trivial⟩
  rcases hG with ⟨ha, hn, hc, hG⟩ | ⟨b, spare, ha, hnc, hcap, hG⟩
  · subst ha; subst hn; subst hc; subst hG
    have hxs0 : xs = [] := List.length_eq_zero_iff.1 (by simpa using hxs)
    subst hxs0
    by_cases hroom : 0 + m ≤ 0
    · have hm0 : m = 0 := by omega
      subst hm0
      have hys0 : ys = [] := List.length_eq_zero_iff.1 (by simpa using hlen)
      subst hys0
      refine ⟨none, 0, 0, 0, [], ag _ _ hx, by rw [ag _ _ hy]; exact hm, by rw [ag _ _ hy]; exact hshow, ?_⟩
      rw [if_pos (by omega)]
      exact ⟨_, h, ⟨none, 0, rfl, rfl⟩, ⟨h0, hr, sp, ⟨[], own_nil, trivial⟩, qr⟩, f, Keeps.refl w⟩
    · exact grown hroom (by rw [ag _ _ hx]; simp [shows])
  · subst ha; subst hG
    obtain ⟨g1, g2, sg, hpt, _⟩ := qG
    have hb0 : h0 b = some (.cells (xs ++ spare).toArray T (0, 0)) := sg.left hpt
    have hhb : h b = some (.cells (xs ++ spare).toArray T (0, 0)) := sp.left hb0
    have hwb := f.own _ _ hhb
    by_cases hroom : n + m ≤ c
    · refine ⟨some ⟨b, 0, none⟩, n, c, m, ys, ag _ _ hx, by rw [ag _ _ hy]; exact hm, by rw [ag _ _ hy]; exact hshow, ?_⟩
      rw [if_pos hroom]
      refine ⟨rfl, ?_⟩
      by_cases hys : ys = []
      · rw [if_pos hys]
        subst hys
        have hm0 : m * z.length = 0 := by simpa using hlen.symm
        have : m = 0 := by
          rcases Nat.mul_eq_zero.1 hm0 with e | e
          · exact e
          · omega
        subst this
        exact ⟨_, h, ⟨_, c, rfl, rfl⟩, ⟨h0, hr, sp, ⟨[.pt b (.cells (xs ++ spare).toArray T (0, 0))], ⟨by simpa using hxs, .inr ⟨b, spare, rfl, hroom, by simpa using hcap, by simp⟩⟩, ⟨g1, g2, sg, hpt, trivial⟩⟩, qr⟩, f, Keeps.refl w⟩
      · rw [if_neg hys]
        have hle : n * z.length + m * z.length ≤ c * z.length := by rw [← hadd]; exact Nat.mul_le_mul_right _ hroom
        have hL : (xs ++ spare).length = c * z.length := hcap
        refine ⟨xs ++ spare, T, (0, 0), hwb, h1, by simp only [Nat.zero_add]; rw [hL, hlen]; exact hle, fun j _ _ => nofz j, ?_⟩
        simp only [Nat.zero_add]
        have e1 : (xs ++ spare).take (n * z.length) = xs := by rw [← hxs]; simp
        have e2 : (xs ++ spare).drop (n * z.length + ys.length) = spare.drop ys.length := by rw [← hxs, List.drop_append]; simp
        rw [e1, e2]
        refine ⟨_, _, ⟨_, c, rfl, rfl⟩, ?_, f.set hhb, Keeps.setBlk w b _⟩
        refine ⟨_, hr, upd_split sp hb0, ⟨[.pt b (.cells (xs ++ ys ++ spare.drop ys.length).toArray T (0, 0))], ⟨by simp [hxs, hlen, hadd], .inr ⟨b, spare.drop ys.length, rfl, hroom, ?_, rfl⟩⟩, ?_⟩, qr⟩
        · simp only [List.length_append, List.length_drop] at hL ⊢
          rw [hlen, hxs] at *
          omega
        · exact ⟨_, g2, upd_split sg hpt, by simp [HA.holds, upd], trivial⟩
    · refine grown hroom ?_
      rw [ag _ _ hx]
      refine .inr ⟨rfl, xs ++ spare, T, (0, 0), hwb, ?_, ?_⟩
      · simp only [List.length_append, Nat.zero_add]; omega
      · rw [← hxs]; simp

theorem Ops.app {x y : Operand} {a : Option Addr} {n c m bytes : Nat} {T : TypeId} {z xs ys : List Value} {u : Value} {H' : List HA} (hx : get l x = some (.slice a n c)) (hy : get l y = some u) (hm : lenV u = some m)
    (own : Sel H (OwnS a n c z.length T xs) H') (sh : ∀ w h, seps H' h → Fits F h w → shows w z.length m u ys) (h1 : oneCells ys) (hlen : ys.length = m * z.length) (hz : 0 < z.length) (hb : (2 * (n + m) + 1024) * bytes ≤ 2 ^ 48)
    (k : ∀ a' c', Ops P F es ((d, .slice a' (n + m) c') :: l) (OwnS a' (n + m) c' z.length T (xs ++ ys) :: H') C) : Ops P F (EG.mk i (some d) none false (.app T z bytes x y) :: es) l H C :=
  Ops.busy (busyApp hx hy hm own sh h1 hlen hz hb) fun v M ⟨a', c', e1, e2⟩ => by subst e1; subst e2; exact k a' c'

/-- append to nil -/
theorem Ops.appN {x y : Operand} {m bytes : Nat} {T : TypeId} {z ys : List Value} {u : Value} (hx : get l x = some (.slice none 0 0)) (hy : get l y = some u) (hm : lenV u = some m)
    (sh : ∀ w h, seps H h → Fits F h w → shows w z.length m u ys) (h1 : oneCells ys) (hlen : ys.length = m * z.length) (hz : 0 < z.length) (hb : (2 * m + 1024) * bytes ≤ 2 ^ 48)
    (k : ∀ a' c', Ops P F es ((d, .slice a' m c') :: l) (OwnS a' m c' z.length T ys :: H) C) : Ops P F (EG.mk i (some d) none false (.app T z bytes x y) :: es) l H C := by
  refine Ops.busy (R := fun v M => ∃ a' c', v = .slice a' m c' ∧ M = OwnS a' m c' z.length T ys :: H) (fun w h ρ ag q f => ?_) fun v M ⟨a', c', e1, e2⟩ => by subst e1; subst e2; exact k a' c'
  have q2 : seps (OwnS none 0 0 z.length T [] :: H) h := ⟨noHp, h, Split.empty h, ⟨[], own_nil, trivial⟩, q⟩
  have := busyApp (P := P) (F := F) (H := OwnS none 0 0 z.length T [] :: H) (xs := []) hx hy hm .here sh h1 hlen hz (by simpa using hb) w h ρ ag q2 f
  simpa using this
end
end Eng
end Go.Proofs.Ytbhlolmglieehaa
