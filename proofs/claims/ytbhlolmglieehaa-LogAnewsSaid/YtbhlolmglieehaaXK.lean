/- Records kept one by one, and a crash at some step: the first ones are there. -/
import Derived.Test.YtbhlolmglieehaaXJ
set_option linter.constructorNameAsVariable false
set_option linter.unusedSimpArgs false
set_option linter.unusedVariables false
namespace Go.Proofs.Ytbhlolmglieehaa

theorem total_le6 : ∀ (l : List Bytes), (∀ b ∈ l, b.length ≤ 300) → total l ≤ 6 * l.length := by
  intro l
  induction l with
  | nil => intro _; exact Nat.le_refl _
  | cons b l ih =>
    intro h
    have h1 := h b (.head _)
    have h2 := ih fun x hx => h x (.tail _ hx)
    have h3 : sectorsOf b.length ≤ 6 := by unfold sectorsOf; omega
    simp only [total, List.length_cons]; omega

def TornS (L : LogS) (D : DiskS) (list : List Bytes) (told : Nat) : Prop := L.Ok D ∧ D.cache = [] ∧ D.kept.length = 1500 ∧
  ((Held L D list ∧ told = list.length) ∨ (L.dead = true ∧ ∃ l' T, Bears D l' T ∧ told ≤ l'.length ∧ l'.length ≤ told + 1 ∧ l'.length ≤ list.length ∧ l' = list.take l'.length))

theorem torn_step {L : LogS} {D : DiskS} {list : List Bytes} {told : Nat} {b : Bytes} (h : TornS L D list told) (hb : b.length ≤ 300) (hl : ∀ x ∈ list, x.length ≤ 300) (hn : list.length ≤ 30) :
    TornS (L.append D b).2.1 (L.append D b).2.2 (list ++ [b]) (if (L.append D b).1 = 0 then list.length + 1 else told) := by
  obtain ⟨ok, hc, hk, h⟩ := h
  have haok := L.append_ok ok (by rw [hc]; simp) b
  have hhf : D.hf = 749 := by unfold DiskS.hf; rw [hk]
  have ht := total_le6 list hl
  rcases h with ⟨hd, rfl⟩ | ⟨hdead, l', T, h1, h2, h3, h4, h5⟩
  · have hs : sectorsOf b.length ≤ 6 := by unfold sectorsOf; omega
    rcases append_held hd (b := b) (by omega) (by omega) with ⟨a1, a2, a3, a4⟩ | ⟨a1, a2, a3, a4, a5, a6, a7, a8, l', a9, a10⟩
    · rw [if_pos a1]
      exact ⟨haok.1, a2.cache, by omega, .inl ⟨a2, by simp⟩⟩
    · rw [if_neg (by omega)]
      refine ⟨haok.1, a6, by omega, .inr ⟨a3, l', L.top, ⟨a4, a6, _, _, by rw [a8]; exact a10⟩, ?_⟩⟩
      rcases a9 with rfl | rfl
      · exact ⟨Nat.le_refl _, by omega, by simp, by simp⟩
      · exact ⟨by simp, by simp, Nat.le_refl _, (List.take_of_length_le (Nat.le_refl _)).symm⟩
  · rw [append_dead hdead]
    rw [append_dead hdead] at haok
    dsimp only
    rw [if_neg (by decide)]
    refine ⟨ok, hc, hk, .inr ⟨hdead, l', T, h1, h2, h3, by rw [List.length_append]; omega, ?_⟩⟩
    rw [List.take_append_of_le_length h4]; exact h5

theorem torn_end {L : LogS} {D : DiskS} {list : List Bytes} {told : Nat} (h : TornS L D list told) : ∃ l' T, Bears D l' T ∧ told ≤ l'.length ∧ l'.length ≤ told + 1 ∧ l'.length ≤ list.length ∧ l' = list.take l'.length := by
  obtain ⟨ok, hc, hk, ⟨h1, rfl⟩ | ⟨_, h⟩⟩ := h
  · exact ⟨list, _, h1.bears, Nat.le_refl _, by omega, Nat.le_refl _, by simp⟩
  · exact h

namespace Eng

theorem RdBB.take {F : Hp} {b n c c' k : Nat} {bss : List Bytes} {a' : Option Addr} (h : RdBB F (.slice (some ⟨b, 0, none⟩) n c) bss) (hk : k ≤ bss.length) (ha : a' = some ⟨b, 0 + 0 * 1, none⟩ ∨ k - 0 = 0) : RdBB F (.slice a' (k - 0) c') (bss.take k) := by
  obtain ⟨x, y, he, h⟩ := h
  obtain ⟨rfl, hn, rfl⟩ := Value.slice.inj he
  have hlen : (bss.take k).length = k := by rw [List.length_take]; omega
  refine ⟨a', c', by rw [hlen, Nat.sub_zero], ?_⟩
  rcases ha with rfl | h0
  · rcases h with h | ⟨b', o, L, T, fz, hb, hF, hl, hq⟩
    · left; rw [h]; simp
    · cases hb
      refine .inr ⟨_, 0, L, T, fz, rfl, hF, by rw [hlen]; omega, fun i bs hi => ?_⟩
      refine hq i bs ?_
      rw [List.getElem?_take] at hi
      split at hi
      · exact hi
      · cases hi
  · left; rw [show k = 0 by omega]; simp

theorem RdsB.snoc {F : Hp} {vs : List Value} {bss : List Bytes} {v : Value} {b : Bytes} (h : RdsB F vs bss) (r : RdB F v b) : RdsB F (vs ++ [v]) (bss ++ [b]) := by
  induction h with
  | nil => exact .cons r .nil
  | cons h _ ih => exact .cons h ih

theorem own_some {a : Option Addr} {n c s : Nat} {T : TypeId} {xs : List Value} {H : List HA} (hn : 1 ≤ n) : ∀ h, seps (OwnS a n c s T xs :: H) h → ∃ b, a = some ⟨b, 0, none⟩ ∧ (1 ≤ s → n ≤ c) := by
  rintro h ⟨x, y, sp, ⟨G, ⟨h1, ⟨_, h2, _⟩ | ⟨b, spare, h2, h3, h4, h5⟩⟩, _⟩, _⟩
  · omega
  · exact ⟨b, h2, fun _ => h3⟩

attribute [local irreducible] Ops Segs Run Spec

set_option maxHeartbeats 2000000 in
theorem law_LogTorn (v : Value) (rows : List Bytes) (step : Int) (keeps : Nat) (hkp : keeps < 2 ^ 64) (F : Hp) (hv : RdBB F v rows) : Spec Try.prog 5 [v, .int .i64 step, .int .u64 keeps].toArray F [] fun r H => r = .bool true ∧ H = [] := by
  obtain ⟨oa, oc, rfl, hrows⟩ := hv
  refine Spec.enter (n := 106) Try.func5 ok_law04_LogTorn rfl (by simp) ?_
  unfold ec_law04_LogTorn
  simp only [argFr, Nat.reduceAdd]
  (repeat (first | (apply Ops.q; rfl; rfl) | (apply Ops.gyB; rfl; rfl) | (apply Ops.gnB; rfl; decide) | (apply Ops.add; rfl; rfl; (constructor <;> omega)) | (apply Ops.sub; rfl; rfl; (constructor <;> omega)) | (apply Ops.rem; rfl; rfl; omega; omega) | (apply Ops.quo; rfl; rfl; (constructor <;> omega); omega) | (apply Ops.ld; rfl; (first | exact m0 | exact m1 | exact m2 | exact m3 | exact m4 | exact m5 | exact m6); rfl) | (apply Ops.st0; rfl; rfl; rfl; rfl; (first | exact u0 | exact u1 | exact u2 | exact u3 | exact u4 | exact u5); focus (simp; done)) | refine Ops.nil ?_ | refine Segs.nil ?_ | (apply Segs.oneS; rfl) | refine Run.seq ?_ | refine Run.reg ?_ | refine Run.block ?_ | refine Run.blk ?_ | refine Run.skip ?_))
  refine Ops.call1 rfl .nil (fun F' _ _ => law_alive F') ?_
  rintro v G ⟨rfl, rfl⟩
  simp only [List.nil_append]
  (repeat (first | (apply Ops.q; rfl; rfl) | (apply Ops.gyB; rfl; rfl) | (apply Ops.gnB; rfl; decide) | (apply Ops.add; rfl; rfl; (constructor <;> omega)) | (apply Ops.sub; rfl; rfl; (constructor <;> omega)) | (apply Ops.rem; rfl; rfl; omega; omega) | (apply Ops.quo; rfl; rfl; (constructor <;> omega); omega) | (apply Ops.ld; rfl; (first | exact m0 | exact m1 | exact m2 | exact m3 | exact m4 | exact m5 | exact m6); rfl) | (apply Ops.st0; rfl; rfl; rfl; rfl; (first | exact u0 | exact u1 | exact u2 | exact u3 | exact u4 | exact u5); focus (simp; done)) | refine Ops.nil ?_ | refine Segs.nil ?_ | (apply Segs.oneS; rfl) | refine Run.seq ?_ | refine Run.reg ?_ | refine Run.block ?_ | refine Run.blk ?_ | refine Run.skip ?_))
  refine Run.condF rfl ?_
  (repeat (first | (apply Ops.q; rfl; rfl) | (apply Ops.gyB; rfl; rfl) | (apply Ops.gnB; rfl; decide) | (apply Ops.add; rfl; rfl; (constructor <;> omega)) | (apply Ops.sub; rfl; rfl; (constructor <;> omega)) | (apply Ops.rem; rfl; rfl; omega; omega) | (apply Ops.quo; rfl; rfl; (constructor <;> omega); omega) | (apply Ops.ld; rfl; (first | exact m0 | exact m1 | exact m2 | exact m3 | exact m4 | exact m5 | exact m6); rfl) | (apply Ops.st0; rfl; rfl; rfl; rfl; (first | exact u0 | exact u1 | exact u2 | exact u3 | exact u4 | exact u5); focus (simp; done)) | refine Ops.nil ?_ | refine Segs.nil ?_ | (apply Segs.oneS; rfl) | refine Run.seq ?_ | refine Run.reg ?_ | refine Run.block ?_ | refine Run.blk ?_ | refine Run.skip ?_))
  refine Run.condD rfl (fun hbig => ?_) (fun hsm => ?_)
  · (repeat (first | (apply Ops.q; rfl; rfl) | (apply Ops.gyB; rfl; rfl) | (apply Ops.gnB; rfl; decide) | (apply Ops.add; rfl; rfl; (constructor <;> omega)) | (apply Ops.sub; rfl; rfl; (constructor <;> omega)) | (apply Ops.rem; rfl; rfl; omega; omega) | (apply Ops.quo; rfl; rfl; (constructor <;> omega); omega) | (apply Ops.ld; rfl; (first | exact m0 | exact m1 | exact m2 | exact m3 | exact m4 | exact m5 | exact m6); rfl) | (apply Ops.st0; rfl; rfl; rfl; rfl; (first | exact u0 | exact u1 | exact u2 | exact u3 | exact u4 | exact u5); focus (simp; done)) | refine Ops.nil ?_ | refine Segs.nil ?_ | (apply Segs.oneS; rfl) | refine Run.seq ?_ | refine Run.reg ?_ | refine Run.block ?_ | refine Run.blk ?_ | refine Run.skip ?_))
    exact Run.ret1 Try.func5 rfl rfl (fun h q => q) ⟨rfl, rfl⟩
  obtain ⟨L1, D1, ho1, hl1, ht1, hf1, hn1⟩ := new_open (n := 1500) (by decide)
  have hok0 := new_ok (n := 1500) (by decide)
  (repeat (first | (apply Ops.q; rfl; rfl) | (apply Ops.gyB; rfl; rfl) | (apply Ops.gnB; rfl; decide) | (apply Ops.add; rfl; rfl; (constructor <;> omega)) | (apply Ops.sub; rfl; rfl; (constructor <;> omega)) | (apply Ops.rem; rfl; rfl; omega; omega) | (apply Ops.quo; rfl; rfl; (constructor <;> omega); omega) | (apply Ops.ld; rfl; (first | exact m0 | exact m1 | exact m2 | exact m3 | exact m4 | exact m5 | exact m6); rfl) | (apply Ops.st0; rfl; rfl; rfl; rfl; (first | exact u0 | exact u1 | exact u2 | exact u3 | exact u4 | exact u5); focus (simp; done)) | refine Ops.nil ?_ | refine Segs.nil ?_ | (apply Segs.oneS; rfl) | refine Run.seq ?_ | refine Run.reg ?_ | refine Run.block ?_ | refine Run.blk ?_ | refine Run.skip ?_))
  refine Ops.call1 rfl .nil (fun F' _ _ => disk_New 1500 (by decide) F') ?_
  rintro v G ⟨d, rfl, rfl⟩
  simp only [List.cons_append, List.nil_append]
  (repeat (first | (apply Ops.q; rfl; rfl) | (apply Ops.gyB; rfl; rfl) | (apply Ops.gnB; rfl; decide) | (apply Ops.add; rfl; rfl; (constructor <;> omega)) | (apply Ops.sub; rfl; rfl; (constructor <;> omega)) | (apply Ops.rem; rfl; rfl; omega; omega) | (apply Ops.quo; rfl; rfl; (constructor <;> omega); omega) | (apply Ops.ld; rfl; (first | exact m0 | exact m1 | exact m2 | exact m3 | exact m4 | exact m5 | exact m6); rfl) | (apply Ops.st0; rfl; rfl; rfl; rfl; (first | exact u0 | exact u1 | exact u2 | exact u3 | exact u4 | exact u5); focus (simp; done)) | refine Ops.nil ?_ | refine Segs.nil ?_ | (apply Segs.oneS; rfl) | refine Run.seq ?_ | refine Run.reg ?_ | refine Run.block ?_ | refine Run.blk ?_ | refine Run.skip ?_))
  refine Ops.call1 rfl (.cons s0 .nil) (fun F' _ _ => log_Open d (DiskS.new 1500) hok0.1 rfl (by decide) F') ?_
  intro v G hv
  rw [show DiskS.new 1500 = DiskS.new ((1500 : Nat) : Int) from rfl, ho1] at hv
  obtain ⟨l, rfl, rfl⟩ := hv
  simp only [List.cons_append, List.nil_append]
  (repeat (first | (apply Ops.q; rfl; rfl) | (apply Ops.gyB; rfl; rfl) | (apply Ops.gnB; rfl; decide) | (apply Ops.add; rfl; rfl; (constructor <;> omega)) | (apply Ops.sub; rfl; rfl; (constructor <;> omega)) | (apply Ops.rem; rfl; rfl; omega; omega) | (apply Ops.quo; rfl; rfl; (constructor <;> omega); omega) | (apply Ops.ld; rfl; (first | exact m0 | exact m1 | exact m2 | exact m3 | exact m4 | exact m5 | exact m6); rfl) | (apply Ops.st0; rfl; rfl; rfl; rfl; (first | exact u0 | exact u1 | exact u2 | exact u3 | exact u4 | exact u5); focus (simp; done)) | refine Ops.nil ?_ | refine Segs.nil ?_ | (apply Segs.oneS; rfl) | refine Run.seq ?_ | refine Run.reg ?_ | refine Run.block ?_ | refine Run.blk ?_ | refine Run.skip ?_))
  refine Run.condF rfl ?_
  (repeat (first | (apply Ops.q; rfl; rfl) | (apply Ops.gyB; rfl; rfl) | (apply Ops.gnB; rfl; decide) | (apply Ops.add; rfl; rfl; (constructor <;> omega)) | (apply Ops.sub; rfl; rfl; (constructor <;> omega)) | (apply Ops.rem; rfl; rfl; omega; omega) | (apply Ops.quo; rfl; rfl; (constructor <;> omega); omega) | (apply Ops.ld; rfl; (first | exact m0 | exact m1 | exact m2 | exact m3 | exact m4 | exact m5 | exact m6); rfl) | (apply Ops.st0; rfl; rfl; rfl; rfl; (first | exact u0 | exact u1 | exact u2 | exact u3 | exact u4 | exact u5); focus (simp; done)) | refine Ops.nil ?_ | refine Segs.nil ?_ | (apply Segs.oneS; rfl) | refine Run.seq ?_ | refine Run.reg ?_ | refine Run.block ?_ | refine Run.blk ?_ | refine Run.skip ?_))
  refine Ops.mask 127 rfl rfl (by decide) fun n hn => ?_
  (repeat (first | (apply Ops.q; rfl; rfl) | (apply Ops.gyB; rfl; rfl) | (apply Ops.gnB; rfl; decide) | (apply Ops.add; rfl; rfl; (constructor <;> omega)) | (apply Ops.sub; rfl; rfl; (constructor <;> omega)) | (apply Ops.rem; rfl; rfl; omega; omega) | (apply Ops.quo; rfl; rfl; (constructor <;> omega); omega) | (apply Ops.ld; rfl; (first | exact m0 | exact m1 | exact m2 | exact m3 | exact m4 | exact m5 | exact m6); rfl) | (apply Ops.st0; rfl; rfl; rfl; rfl; (first | exact u0 | exact u1 | exact u2 | exact u3 | exact u4 | exact u5); focus (simp; done)) | refine Ops.nil ?_ | refine Segs.nil ?_ | (apply Segs.oneS; rfl) | refine Run.seq ?_ | refine Run.reg ?_ | refine Run.block ?_ | refine Run.blk ?_ | refine Run.skip ?_))
  refine Ops.call1 rfl (.cons s1 .nil) (fun F' _ _ => disk_Plan d D1 (1 + n) keeps hkp (by omega) F') ?_
  rintro v G ⟨rfl, rfl⟩
  simp only [List.cons_append, List.nil_append]
  have hp1 : Held L1 (D1.plan (1 + n) keeps) [] := hl1.plan (by omega) hkp
  (repeat (first | (apply Ops.q; rfl; rfl) | (apply Ops.gyB; rfl; rfl) | (apply Ops.gnB; rfl; decide) | (apply Ops.add; rfl; rfl; (constructor <;> omega)) | (apply Ops.sub; rfl; rfl; (constructor <;> omega)) | (apply Ops.rem; rfl; rfl; omega; omega) | (apply Ops.quo; rfl; rfl; (constructor <;> omega); omega) | (apply Ops.ld; rfl; (first | exact m0 | exact m1 | exact m2 | exact m3 | exact m4 | exact m5 | exact m6); rfl) | (apply Ops.st0; rfl; rfl; rfl; rfl; (first | exact u0 | exact u1 | exact u2 | exact u3 | exact u4 | exact u5); focus (simp; done)) | refine Ops.nil ?_ | refine Segs.nil ?_ | (apply Segs.oneS; rfl) | refine Run.seq ?_ | refine Run.reg ?_ | refine Run.block ?_ | refine Run.blk ?_ | refine Run.skip ?_))
  refine Ops.lit [] rfl rfl fun bl => ?_
  (repeat (first | (apply Ops.q; rfl; rfl) | (apply Ops.gyB; rfl; rfl) | (apply Ops.gnB; rfl; decide) | (apply Ops.add; rfl; rfl; (constructor <;> omega)) | (apply Ops.sub; rfl; rfl; (constructor <;> omega)) | (apply Ops.rem; rfl; rfl; omega; omega) | (apply Ops.quo; rfl; rfl; (constructor <;> omega); omega) | (apply Ops.ld; rfl; (first | exact m0 | exact m1 | exact m2 | exact m3 | exact m4 | exact m5 | exact m6); rfl) | (apply Ops.st0; rfl; rfl; rfl; rfl; (first | exact u0 | exact u1 | exact u2 | exact u3 | exact u4 | exact u5); focus (simp; done)) | refine Ops.nil ?_ | refine Segs.nil ?_ | (apply Segs.oneS; rfl) | refine Run.seq ?_ | refine Run.reg ?_ | refine Run.block ?_ | refine Run.blk ?_ | refine Run.skip ?_))
  refine Run.loopI (ι := Nat × LogS × DiskS × List Bytes × Nat × List Value × Nat × Nat) (fun x => rows.length - x.1)
    (fun x => x.1 ≤ rows.length ∧ TornS x.2.1 x.2.2.1 x.2.2.2.1 x.2.2.2.2.1 ∧ x.2.2.2.1.length ≤ x.1 ∧ (∀ b ∈ x.2.2.2.1, b.length ≤ 300) ∧ RdsB F x.2.2.2.2.2.1 x.2.2.2.1 ∧ x.2.2.2.2.1 ≤ x.2.2.2.1.length ∧ x.2.2.2.1.length ≤ x.2.2.2.2.2.2.2)
    (fun x => [(43, .int .i64 x.1), (42, .int .i64 rows.length), (41, .slice oa rows.length oc), (11, .slice (some ⟨x.2.2.2.2.2.2.1, 0, none⟩) x.2.2.2.1.length x.2.2.2.2.2.2.2), (10, .int .i64 x.2.2.2.2.1), (8, .pointer (some ⟨l, 0, none⟩)), (7, .pointer (some ⟨d, 0, none⟩)), (2, .int .u64 keeps)])
    (fun x => [OwnS (some ⟨x.2.2.2.2.2.2.1, 0, none⟩) x.2.2.2.1.length x.2.2.2.2.2.2.2 1 30 x.2.2.2.2.2.1, LogP l d x.2.1, DiskP d x.2.2.1])
    (0, L1, D1.plan (1 + n) keeps, [], 0, [], bl, 0) ⟨Nat.zero_le _, ⟨hp1.ok, hp1.cache, hn1, .inl ⟨hp1, rfl⟩⟩, Nat.le_refl _, (fun b hb => by cases hb), .nil, Nat.le_refl _, Nat.le_refl _⟩
    (.cons rfl (.cons rfl (.cons rfl (.cons rfl (.cons rfl (.cons rfl (.cons rfl (.cons rfl .nil)))))))) (fun h q => fold_grp (I := OwnI (some ⟨bl, 0, none⟩) 0 0 1 30 []) (.cons s0 .nil) ⟨rfl, .inr ⟨bl, [], rfl, Nat.le_refl _, rfl, rfl⟩⟩ h (take_sub (.cons s0 (.cons s1 (.cons s0 .nil))) h q)) ?_
  rintro ⟨i, L, D, list, told, vs, lb, lc⟩ ⟨hi, ht, hli, hb3, hrd, htl, hlc⟩ ih
  try dsimp only at hi ht hli hb3 hrd htl hlc ih ⊢
  have hvl := hrd.len
  unfold ec_law04_LogTorn_L0
  (repeat (first | (apply Ops.q; rfl; rfl) | (apply Ops.gyB; rfl; rfl) | (apply Ops.gnB; rfl; decide) | (apply Ops.add; rfl; rfl; (constructor <;> omega)) | (apply Ops.sub; rfl; rfl; (constructor <;> omega)) | (apply Ops.rem; rfl; rfl; omega; omega) | (apply Ops.quo; rfl; rfl; (constructor <;> omega); omega) | (apply Ops.ld; rfl; (first | exact m0 | exact m1 | exact m2 | exact m3 | exact m4 | exact m5 | exact m6); rfl) | (apply Ops.st0; rfl; rfl; rfl; rfl; (first | exact u0 | exact u1 | exact u2 | exact u3 | exact u4 | exact u5); focus (simp; done)) | refine Ops.nil ?_ | refine Segs.nil ?_ | (apply Segs.oneS; rfl) | refine Run.seq ?_ | refine Run.reg ?_ | refine Run.block ?_ | refine Run.blk ?_ | refine Run.skip ?_))
  refine Run.condD rfl (fun hlt => ?_) (fun hge => ?_)
  · have h1 : i < rows.length := by omega
    have e1 : rows[i]? = some rows[i] := List.getElem?_eq_getElem h1
    generalize rows[i] = b at *
    rcases hrows with hrows | ⟨ob, o, La, T, fz, rfl, hF, hlen, hq⟩
    · rw [hrows] at h1; simp at h1
    obtain ⟨v, hcs, hrb⟩ := hq i b e1
    have hrb2 := hrb
    obtain ⟨ra, rc, rfl, _⟩ := hrb2
    (repeat (first | (apply Ops.q; rfl; rfl) | (apply Ops.gyB; rfl; rfl) | (apply Ops.gnB; rfl; decide) | (apply Ops.add; rfl; rfl; (constructor <;> omega)) | (apply Ops.sub; rfl; rfl; (constructor <;> omega)) | (apply Ops.rem; rfl; rfl; omega; omega) | (apply Ops.quo; rfl; rfl; (constructor <;> omega); omega) | (apply Ops.ld; rfl; (first | exact m0 | exact m1 | exact m2 | exact m3 | exact m4 | exact m5 | exact m6); rfl) | (apply Ops.st0; rfl; rfl; rfl; rfl; (first | exact u0 | exact u1 | exact u2 | exact u3 | exact u4 | exact u5); focus (simp; done)) | refine Ops.nil ?_ | refine Segs.nil ?_ | (apply Segs.oneS; rfl) | refine Run.seq ?_ | refine Run.reg ?_ | refine Run.block ?_ | refine Run.blk ?_ | refine Run.skip ?_))
    refine Ops.ixS rfl rfl ⟨by omega, by omega⟩ ?_
    refine Ops.ldF rfl hF (by rw [Int.toNat_natCast, Nat.mul_one]; exact hcs) ?_
    (repeat (first | (apply Ops.q; rfl; rfl) | (apply Ops.gyB; rfl; rfl) | (apply Ops.gnB; rfl; decide) | (apply Ops.add; rfl; rfl; (constructor <;> omega)) | (apply Ops.sub; rfl; rfl; (constructor <;> omega)) | (apply Ops.rem; rfl; rfl; omega; omega) | (apply Ops.quo; rfl; rfl; (constructor <;> omega); omega) | (apply Ops.ld; rfl; (first | exact m0 | exact m1 | exact m2 | exact m3 | exact m4 | exact m5 | exact m6); rfl) | (apply Ops.st0; rfl; rfl; rfl; rfl; (first | exact u0 | exact u1 | exact u2 | exact u3 | exact u4 | exact u5); focus (simp; done)) | refine Ops.nil ?_ | refine Segs.nil ?_ | (apply Segs.oneS; rfl) | refine Run.seq ?_ | refine Run.reg ?_ | refine Run.block ?_ | refine Run.blk ?_ | refine Run.skip ?_))
    refine Run.condD rfl (fun h3 => ?_) (fun h3 => ?_)
    · refine Run.exit rfl ?_
      (repeat (first | (apply Ops.q; rfl; rfl) | (apply Ops.gyB; rfl; rfl) | (apply Ops.gnB; rfl; decide) | (apply Ops.add; rfl; rfl; (constructor <;> omega)) | (apply Ops.sub; rfl; rfl; (constructor <;> omega)) | (apply Ops.rem; rfl; rfl; omega; omega) | (apply Ops.quo; rfl; rfl; (constructor <;> omega); omega) | (apply Ops.ld; rfl; (first | exact m0 | exact m1 | exact m2 | exact m3 | exact m4 | exact m5 | exact m6); rfl) | (apply Ops.st0; rfl; rfl; rfl; rfl; (first | exact u0 | exact u1 | exact u2 | exact u3 | exact u4 | exact u5); focus (simp; done)) | refine Ops.nil ?_ | refine Segs.nil ?_ | (apply Segs.oneS; rfl) | refine Run.seq ?_ | refine Run.reg ?_ | refine Run.block ?_ | refine Run.blk ?_ | refine Run.skip ?_))
      exact Run.lp (Run.again (ih (i + 1, L, D, list, told, vs, lb, lc) (by dsimp only; omega) ⟨by dsimp only; omega, ht, by dsimp only; omega, hb3, hrd, htl, hlc⟩) (.cons rfl (.cons rfl (.cons rfl (.cons rfl (.cons rfl (.cons rfl (.cons rfl (.cons rfl .nil)))))))) (fun h q => q))
    · have h300 : b.length ≤ 300 := by omega
      have hst := torn_step (b := b) ht h300 hb3 (by omega)
      (repeat (first | (apply Ops.q; rfl; rfl) | (apply Ops.gyB; rfl; rfl) | (apply Ops.gnB; rfl; decide) | (apply Ops.add; rfl; rfl; (constructor <;> omega)) | (apply Ops.sub; rfl; rfl; (constructor <;> omega)) | (apply Ops.rem; rfl; rfl; omega; omega) | (apply Ops.quo; rfl; rfl; (constructor <;> omega); omega) | (apply Ops.ld; rfl; (first | exact m0 | exact m1 | exact m2 | exact m3 | exact m4 | exact m5 | exact m6); rfl) | (apply Ops.st0; rfl; rfl; rfl; rfl; (first | exact u0 | exact u1 | exact u2 | exact u3 | exact u4 | exact u5); focus (simp; done)) | refine Ops.nil ?_ | refine Segs.nil ?_ | (apply Segs.oneS; rfl) | refine Run.seq ?_ | refine Run.reg ?_ | refine Run.block ?_ | refine Run.blk ?_ | refine Run.skip ?_))
      refine Ops.lit [.slice ra b.length rc] rfl rfl fun b2 => ?_
      refine Ops.app (m := 1) (ys := [.slice ra b.length rc]) (xs := vs) rfl rfl rfl s1 (shows_pt m0 (by simp) (by simp)) (by intro v hv; rw [List.mem_singleton] at hv; subst hv; rfl) rfl (by decide) (by omega) ?_
      intro a' c'
      (repeat (first | (apply Ops.q; rfl; rfl) | (apply Ops.gyB; rfl; rfl) | (apply Ops.gnB; rfl; decide) | (apply Ops.add; rfl; rfl; (constructor <;> omega)) | (apply Ops.sub; rfl; rfl; (constructor <;> omega)) | (apply Ops.rem; rfl; rfl; omega; omega) | (apply Ops.quo; rfl; rfl; (constructor <;> omega); omega)))
      refine Ops.nil (Segs.nil (Run.fact (own_some (by omega)) fun ⟨lb2, he, hlc2⟩ => ?_))
      subst he
      (repeat (first | (apply Ops.q; rfl; rfl) | (apply Ops.gyB; rfl; rfl) | (apply Ops.gnB; rfl; decide) | (apply Ops.add; rfl; rfl; (constructor <;> omega)) | (apply Ops.sub; rfl; rfl; (constructor <;> omega)) | (apply Ops.rem; rfl; rfl; omega; omega) | (apply Ops.quo; rfl; rfl; (constructor <;> omega); omega) | (apply Ops.ld; rfl; (first | exact m0 | exact m1 | exact m2 | exact m3 | exact m4 | exact m5 | exact m6); rfl) | (apply Ops.st0; rfl; rfl; rfl; rfl; (first | exact u0 | exact u1 | exact u2 | exact u3 | exact u4 | exact u5); focus (simp; done)) | refine Ops.nil ?_ | refine Segs.nil ?_ | (apply Segs.oneS; rfl) | refine Run.seq ?_ | refine Run.reg ?_ | refine Run.block ?_ | refine Run.blk ?_ | refine Run.skip ?_))
      refine Ops.call1 rfl (.cons s2 (.cons s2 .nil)) (fun F' e kn => log_Append l d L D ht.1 (by rw [ht.2.1]; decide) _ b (by omega) F' (hrb.ext e)) ?_
      rintro v G ⟨rfl, rfl⟩
      simp only [List.cons_append, List.nil_append]
      generalize L.append D b = r1 at *
      obtain ⟨e1, L2, D2⟩ := r1
      dsimp only at *
      have hb4 : ∀ x ∈ list ++ [b], x.length ≤ 300 := by
        intro x hx
        rcases List.mem_append.1 hx with hx | hx
        · exact hb3 x hx
        · rw [List.mem_singleton] at hx; subst hx; exact h300
      have hrd2 : RdsB F (vs ++ [.slice ra b.length rc]) (list ++ [b]) := hrd.snoc hrb
      have hll : (list ++ [b]).length = list.length + 1 := by simp
      (repeat (first | (apply Ops.q; rfl; rfl) | (apply Ops.gyB; rfl; rfl) | (apply Ops.gnB; rfl; decide) | (apply Ops.add; rfl; rfl; (constructor <;> omega)) | (apply Ops.sub; rfl; rfl; (constructor <;> omega)) | (apply Ops.rem; rfl; rfl; omega; omega) | (apply Ops.quo; rfl; rfl; (constructor <;> omega); omega) | (apply Ops.ld; rfl; (first | exact m0 | exact m1 | exact m2 | exact m3 | exact m4 | exact m5 | exact m6); rfl) | (apply Ops.st0; rfl; rfl; rfl; rfl; (first | exact u0 | exact u1 | exact u2 | exact u3 | exact u4 | exact u5); focus (simp; done)) | refine Ops.nil ?_ | refine Segs.nil ?_ | (apply Segs.oneS; rfl) | refine Run.seq ?_ | refine Run.reg ?_ | refine Run.block ?_ | refine Run.blk ?_ | refine Run.skip ?_))
      refine Run.condD rfl (fun he => ?_) (fun he => ?_)
      · rw [if_pos he] at hst
        (repeat (first | (apply Ops.q; rfl; rfl) | (apply Ops.gyB; rfl; rfl) | (apply Ops.gnB; rfl; decide) | (apply Ops.add; rfl; rfl; (constructor <;> omega)) | (apply Ops.sub; rfl; rfl; (constructor <;> omega)) | (apply Ops.rem; rfl; rfl; omega; omega) | (apply Ops.quo; rfl; rfl; (constructor <;> omega); omega) | (apply Ops.ld; rfl; (first | exact m0 | exact m1 | exact m2 | exact m3 | exact m4 | exact m5 | exact m6); rfl) | (apply Ops.st0; rfl; rfl; rfl; rfl; (first | exact u0 | exact u1 | exact u2 | exact u3 | exact u4 | exact u5); focus (simp; done)) | refine Ops.nil ?_ | refine Segs.nil ?_ | (apply Segs.oneS; rfl) | refine Run.seq ?_ | refine Run.reg ?_ | refine Run.block ?_ | refine Run.blk ?_ | refine Run.skip ?_))
        refine Run.lp (Run.again (ih (i + 1, L2, D2, list ++ [b], list.length + 1, vs ++ [.slice ra b.length rc], lb2, c') (by dsimp only; omega) ⟨by dsimp only; omega, hst, by dsimp only; omega, hb4, hrd2, by dsimp only; omega, by have := hlc2 (by decide); dsimp only; omega⟩) ?_ ?_)
        · dsimp only
          rw [hll]
          exact (.cons rfl (.cons rfl (.cons rfl (.cons rfl (.cons rfl (.cons rfl (.cons rfl (.cons rfl .nil))))))))
        · dsimp only
          rw [hll]
          exact fun h q => take_sub (.cons s2 (.cons s0 (.cons s0 .nil))) h q
      · rw [if_neg he] at hst
        (repeat (first | (apply Ops.q; rfl; rfl) | (apply Ops.gyB; rfl; rfl) | (apply Ops.gnB; rfl; decide) | (apply Ops.add; rfl; rfl; (constructor <;> omega)) | (apply Ops.sub; rfl; rfl; (constructor <;> omega)) | (apply Ops.rem; rfl; rfl; omega; omega) | (apply Ops.quo; rfl; rfl; (constructor <;> omega); omega) | (apply Ops.ld; rfl; (first | exact m0 | exact m1 | exact m2 | exact m3 | exact m4 | exact m5 | exact m6); rfl) | (apply Ops.st0; rfl; rfl; rfl; rfl; (first | exact u0 | exact u1 | exact u2 | exact u3 | exact u4 | exact u5); focus (simp; done)) | refine Ops.nil ?_ | refine Segs.nil ?_ | (apply Segs.oneS; rfl) | refine Run.seq ?_ | refine Run.reg ?_ | refine Run.block ?_ | refine Run.blk ?_ | refine Run.skip ?_))
        refine Run.lp (Run.again (ih (i + 1, L2, D2, list ++ [b], told, vs ++ [.slice ra b.length rc], lb2, c') (by dsimp only; omega) ⟨by dsimp only; omega, hst, by dsimp only; omega, hb4, hrd2, by dsimp only; omega, by have := hlc2 (by decide); dsimp only; omega⟩) ?_ ?_)
        · dsimp only
          rw [hll]
          exact (.cons rfl (.cons rfl (.cons rfl (.cons rfl (.cons rfl (.cons rfl (.cons rfl (.cons rfl .nil))))))))
        · dsimp only
          rw [hll]
          exact fun h q => take_sub (.cons s2 (.cons s0 (.cons s0 .nil))) h q
  refine Run.exit rfl ?_
  clear ih
  obtain ⟨l', T, hbe, g1, g2, g3, g4⟩ := torn_end ht
  have hk7 : keeps >>> 7 < 2 ^ 64 := Nat.lt_of_le_of_lt (Nat.shiftRight_le _ _) hkp
  have hb2 := (hbe.crash (keeps >>> 7)).1.on
  have hk2 : ({ D.crash (keeps >>> 7) with down := false } : DiskS).down = false := rfl
  refine Run.open_ s0 fun G hG => Run.lendD G (take_app G _) fun F1 x1 k1 => ?_
  have hwas := hG.rdBB k1 (hrd.ext x1)
  clear hG k1
  (repeat (first | (apply Ops.q; rfl; rfl) | (apply Ops.gyB; rfl; rfl) | (apply Ops.gnB; rfl; decide) | (apply Ops.add; rfl; rfl; (constructor <;> omega)) | (apply Ops.sub; rfl; rfl; (constructor <;> omega)) | (apply Ops.rem; rfl; rfl; omega; omega) | (apply Ops.quo; rfl; rfl; (constructor <;> omega); omega) | (apply Ops.ld; rfl; (first | exact m0 | exact m1 | exact m2 | exact m3 | exact m4 | exact m5 | exact m6); rfl) | (apply Ops.st0; rfl; rfl; rfl; rfl; (first | exact u0 | exact u1 | exact u2 | exact u3 | exact u4 | exact u5); focus (simp; done)) | refine Ops.nil ?_ | refine Segs.nil ?_ | (apply Segs.oneS; rfl) | refine Run.seq ?_ | refine Run.reg ?_ | refine Run.block ?_ | refine Run.blk ?_ | refine Run.skip ?_))
  refine Ops.shr (j := 7) rfl rfl rfl (by decide) ?_
  refine Ops.call1 rfl (.cons s1 .nil) (fun F' e kn => crash_any d D (keeps >>> 7) hk7 F') ?_
  rintro v G ⟨rfl, rfl⟩
  simp only [List.cons_append, List.nil_append]
  generalize D.crash (keeps >>> 7) = D3 at *
  (repeat (first | (apply Ops.q; rfl; rfl) | (apply Ops.gyB; rfl; rfl) | (apply Ops.gnB; rfl; decide) | (apply Ops.add; rfl; rfl; (constructor <;> omega)) | (apply Ops.sub; rfl; rfl; (constructor <;> omega)) | (apply Ops.rem; rfl; rfl; omega; omega) | (apply Ops.quo; rfl; rfl; (constructor <;> omega); omega) | (apply Ops.ld; rfl; (first | exact m0 | exact m1 | exact m2 | exact m3 | exact m4 | exact m5 | exact m6); rfl) | (apply Ops.st0; rfl; rfl; rfl; rfl; (first | exact u0 | exact u1 | exact u2 | exact u3 | exact u4 | exact u5); focus (simp; done)) | refine Ops.nil ?_ | refine Segs.nil ?_ | (apply Segs.oneS; rfl) | refine Run.seq ?_ | refine Run.reg ?_ | refine Run.block ?_ | refine Run.blk ?_ | refine Run.skip ?_))
  refine Ops.call1 rfl (.cons s0 .nil) (fun F' e kn => disk_On d D3 F') ?_
  rintro v G ⟨rfl, rfl⟩
  simp only [List.cons_append, List.nil_append]
  generalize ({ D3 with down := false } : DiskS) = D4 at *
  obtain ⟨L4, ho4, hl4, _⟩ := hb2.open_ hk2
  have hls4 := hl4.list
  have hl30 : ∀ b ∈ l', b.length ≤ 300 := fun b hb => by rw [g4] at hb; exact hb3 b (List.mem_of_mem_take hb)
  (repeat (first | (apply Ops.q; rfl; rfl) | (apply Ops.gyB; rfl; rfl) | (apply Ops.gnB; rfl; decide) | (apply Ops.add; rfl; rfl; (constructor <;> omega)) | (apply Ops.sub; rfl; rfl; (constructor <;> omega)) | (apply Ops.rem; rfl; rfl; omega; omega) | (apply Ops.quo; rfl; rfl; (constructor <;> omega); omega) | (apply Ops.ld; rfl; (first | exact m0 | exact m1 | exact m2 | exact m3 | exact m4 | exact m5 | exact m6); rfl) | (apply Ops.st0; rfl; rfl; rfl; rfl; (first | exact u0 | exact u1 | exact u2 | exact u3 | exact u4 | exact u5); focus (simp; done)) | refine Ops.nil ?_ | refine Segs.nil ?_ | (apply Segs.oneS; rfl) | refine Run.seq ?_ | refine Run.reg ?_ | refine Run.block ?_ | refine Run.blk ?_ | refine Run.skip ?_))
  refine Ops.call1 rfl (.cons s0 .nil) (fun F' _ _ => log_Open d D4 hb2.ok hk2 (by rw [hb2.cache]; decide) F') ?_
  intro v G hv
  rw [ho4] at hv
  obtain ⟨m, rfl, rfl⟩ := hv
  simp only [List.cons_append, List.nil_append]
  (repeat (first | (apply Ops.q; rfl; rfl) | (apply Ops.gyB; rfl; rfl) | (apply Ops.gnB; rfl; decide) | (apply Ops.add; rfl; rfl; (constructor <;> omega)) | (apply Ops.sub; rfl; rfl; (constructor <;> omega)) | (apply Ops.rem; rfl; rfl; omega; omega) | (apply Ops.quo; rfl; rfl; (constructor <;> omega); omega) | (apply Ops.ld; rfl; (first | exact m0 | exact m1 | exact m2 | exact m3 | exact m4 | exact m5 | exact m6); rfl) | (apply Ops.st0; rfl; rfl; rfl; rfl; (first | exact u0 | exact u1 | exact u2 | exact u3 | exact u4 | exact u5); focus (simp; done)) | refine Ops.nil ?_ | refine Segs.nil ?_ | (apply Segs.oneS; rfl) | refine Run.seq ?_ | refine Run.reg ?_ | refine Run.block ?_ | refine Run.blk ?_ | refine Run.skip ?_))
  refine Run.condF rfl ?_
  (repeat (first | (apply Ops.q; rfl; rfl) | (apply Ops.gyB; rfl; rfl) | (apply Ops.gnB; rfl; decide) | (apply Ops.add; rfl; rfl; (constructor <;> omega)) | (apply Ops.sub; rfl; rfl; (constructor <;> omega)) | (apply Ops.rem; rfl; rfl; omega; omega) | (apply Ops.quo; rfl; rfl; (constructor <;> omega); omega) | (apply Ops.ld; rfl; (first | exact m0 | exact m1 | exact m2 | exact m3 | exact m4 | exact m5 | exact m6); rfl) | (apply Ops.st0; rfl; rfl; rfl; rfl; (first | exact u0 | exact u1 | exact u2 | exact u3 | exact u4 | exact u5); focus (simp; done)) | refine Ops.nil ?_ | refine Segs.nil ?_ | (apply Segs.oneS; rfl) | refine Run.seq ?_ | refine Run.reg ?_ | refine Run.block ?_ | refine Run.blk ?_ | refine Run.skip ?_))
  refine Ops.call1 rfl (.cons s0 .nil) (fun F' _ _ => log_List m d L4 (by rw [hls4]; omega) (by rw [hls4]; exact fun b hb => by have := hl30 b hb; omega) F') ?_
  rintro v G ⟨xa, xc, rfl, rfl⟩
  rw [hls4]
  simp only [List.cons_append, List.nil_append]
  (repeat (first | (apply Ops.q; rfl; rfl) | (apply Ops.gyB; rfl; rfl) | (apply Ops.gnB; rfl; decide) | (apply Ops.add; rfl; rfl; (constructor <;> omega)) | (apply Ops.sub; rfl; rfl; (constructor <;> omega)) | (apply Ops.rem; rfl; rfl; omega; omega) | (apply Ops.quo; rfl; rfl; (constructor <;> omega); omega) | (apply Ops.ld; rfl; (first | exact m0 | exact m1 | exact m2 | exact m3 | exact m4 | exact m5 | exact m6); rfl) | (apply Ops.st0; rfl; rfl; rfl; rfl; (first | exact u0 | exact u1 | exact u2 | exact u3 | exact u4 | exact u5); focus (simp; done)) | refine Ops.nil ?_ | refine Segs.nil ?_ | (apply Segs.oneS; rfl) | refine Run.seq ?_ | refine Run.reg ?_ | refine Run.block ?_ | refine Run.blk ?_ | refine Run.skip ?_))
  have d1 : decide ((told : Int) ≤ (l'.length : Int)) = true := by simp; omega
  have d2 : decide ((l'.length : Int) ≤ (told : Int) + 1) = true := by simp; omega
  have d3 : decide ((l'.length : Int) ≤ (list.length : Int)) = true := by simp; omega
  simp only [d1]
  (repeat (first | (apply Ops.q; rfl; rfl) | (apply Ops.gyB; rfl; rfl) | (apply Ops.gnB; rfl; decide) | (apply Ops.add; rfl; rfl; (constructor <;> omega)) | (apply Ops.sub; rfl; rfl; (constructor <;> omega)) | (apply Ops.rem; rfl; rfl; omega; omega) | (apply Ops.quo; rfl; rfl; (constructor <;> omega); omega) | (apply Ops.ld; rfl; (first | exact m0 | exact m1 | exact m2 | exact m3 | exact m4 | exact m5 | exact m6); rfl) | (apply Ops.st0; rfl; rfl; rfl; rfl; (first | exact u0 | exact u1 | exact u2 | exact u3 | exact u4 | exact u5); focus (simp; done)) | refine Ops.nil ?_ | refine Segs.nil ?_ | (apply Segs.oneS; rfl) | refine Run.seq ?_ | refine Run.reg ?_ | refine Run.block ?_ | refine Run.blk ?_ | refine Run.skip ?_))
  simp only [d2]
  (repeat (first | (apply Ops.q; rfl; rfl) | (apply Ops.gyB; rfl; rfl) | (apply Ops.gnB; rfl; decide) | (apply Ops.add; rfl; rfl; (constructor <;> omega)) | (apply Ops.sub; rfl; rfl; (constructor <;> omega)) | (apply Ops.rem; rfl; rfl; omega; omega) | (apply Ops.quo; rfl; rfl; (constructor <;> omega); omega) | (apply Ops.ld; rfl; (first | exact m0 | exact m1 | exact m2 | exact m3 | exact m4 | exact m5 | exact m6); rfl) | (apply Ops.st0; rfl; rfl; rfl; rfl; (first | exact u0 | exact u1 | exact u2 | exact u3 | exact u4 | exact u5); focus (simp; done)) | refine Ops.nil ?_ | refine Segs.nil ?_ | (apply Segs.oneS; rfl) | refine Run.seq ?_ | refine Run.reg ?_ | refine Run.block ?_ | refine Run.blk ?_ | refine Run.skip ?_))
  simp only [d3]
  (repeat (first | (apply Ops.q; rfl; rfl) | (apply Ops.gyB; rfl; rfl) | (apply Ops.gnB; rfl; decide) | (apply Ops.add; rfl; rfl; (constructor <;> omega)) | (apply Ops.sub; rfl; rfl; (constructor <;> omega)) | (apply Ops.rem; rfl; rfl; omega; omega) | (apply Ops.quo; rfl; rfl; (constructor <;> omega); omega) | (apply Ops.ld; rfl; (first | exact m0 | exact m1 | exact m2 | exact m3 | exact m4 | exact m5 | exact m6); rfl) | (apply Ops.st0; rfl; rfl; rfl; rfl; (first | exact u0 | exact u1 | exact u2 | exact u3 | exact u4 | exact u5); focus (simp; done)) | refine Ops.nil ?_ | refine Segs.nil ?_ | (apply Segs.oneS; rfl) | refine Run.seq ?_ | refine Run.reg ?_ | refine Run.block ?_ | refine Run.blk ?_ | refine Run.skip ?_))
  refine Ops.slS rfl rfl rfl (by omega) (by simp only [Int.toNat_natCast]; omega) fun a' ha' => ?_
  have hdd : decide (l' = list.take l'.length) = true := decide_eq_true g4
  simp only [Int.toNat_natCast] at ha' ⊢
  (repeat (first | (apply Ops.q; rfl; rfl) | (apply Ops.gyB; rfl; rfl) | (apply Ops.gnB; rfl; decide) | (apply Ops.add; rfl; rfl; (constructor <;> omega)) | (apply Ops.sub; rfl; rfl; (constructor <;> omega)) | (apply Ops.rem; rfl; rfl; omega; omega) | (apply Ops.quo; rfl; rfl; (constructor <;> omega); omega) | (apply Ops.ld; rfl; (first | exact m0 | exact m1 | exact m2 | exact m3 | exact m4 | exact m5 | exact m6); rfl) | (apply Ops.st0; rfl; rfl; rfl; rfl; (first | exact u0 | exact u1 | exact u2 | exact u3 | exact u4 | exact u5); focus (simp; done)) | refine Ops.nil ?_ | refine Segs.nil ?_ | (apply Segs.oneS; rfl) | refine Run.seq ?_ | refine Run.reg ?_ | refine Run.block ?_ | refine Run.blk ?_ | refine Run.skip ?_))
  refine Ops.call1 rfl (.cons s0 .nil) (fun F' e _ => law_same_list _ _ l' (list.take l'.length) F' ((hwas.take (c' := lc - 0) g3 ha').ext e) (by omega)) ?_
  rintro v G ⟨rfl, rfl⟩
  rw [hdd]
  simp only [List.nil_append]
  (repeat (first | (apply Ops.q; rfl; rfl) | (apply Ops.gyB; rfl; rfl) | (apply Ops.gnB; rfl; decide) | (apply Ops.add; rfl; rfl; (constructor <;> omega)) | (apply Ops.sub; rfl; rfl; (constructor <;> omega)) | (apply Ops.rem; rfl; rfl; omega; omega) | (apply Ops.quo; rfl; rfl; (constructor <;> omega); omega) | (apply Ops.ld; rfl; (first | exact m0 | exact m1 | exact m2 | exact m3 | exact m4 | exact m5 | exact m6); rfl) | (apply Ops.st0; rfl; rfl; rfl; rfl; (first | exact u0 | exact u1 | exact u2 | exact u3 | exact u4 | exact u5); focus (simp; done)) | refine Ops.nil ?_ | refine Segs.nil ?_ | (apply Segs.oneS; rfl) | refine Run.seq ?_ | refine Run.reg ?_ | refine Run.block ?_ | refine Run.blk ?_ | refine Run.skip ?_))
  exact Run.ret1 Try.func5 rfl rfl (fun h q => take_sub .nil h q) ⟨rfl, rfl⟩
end Eng
end Go.Proofs.Ytbhlolmglieehaa
