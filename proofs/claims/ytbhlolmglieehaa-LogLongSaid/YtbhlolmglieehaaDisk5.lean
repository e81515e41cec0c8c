/- The disk: reads, and a new one. -/
import Derived.Test.YtbhlolmglieehaaDisk4
set_option linter.unusedSimpArgs false
set_option linter.unusedVariables false
namespace Go.Proofs.Ytbhlolmglieehaa

theorem lastOf_append (a : Nat) (xs ys : List (Nat × Bytes)) : DiskS.lastOf a (xs ++ ys) = (DiskS.lastOf a ys).or (DiskS.lastOf a xs) := by
  induction xs with
  | nil => simp [DiskS.lastOf]
  | cons e xs ih =>
    obtain ⟨b, s⟩ := e
    simp only [List.cons_append, DiskS.lastOf, ih]
    cases DiskS.lastOf a ys with
    | some y => simp
    | none => simp

theorem lastOf_mem {a : Nat} {xs : List (Nat × Bytes)} {s : Bytes} (h : DiskS.lastOf a xs = some s) : (a, s) ∈ xs := by
  induction xs with
  | nil => cases h
  | cons e xs ih =>
    obtain ⟨b, x⟩ := e
    simp only [DiskS.lastOf] at h
    split at h
    · rename_i y hy; cases h; exact .tail _ (ih hy)
    · split at h
      · rename_i hb; cases h; subst hb; exact .head _
      · cases h

namespace DiskS
theorem read_len {D : DiskS} (h : D.Ok) (a : Int) : (D.read a).1.length = 64 := by
  unfold DiskS.read
  split
  · simp
  · split
    · simp
    · rename_i _ hc
      simp only
      cases hl : lastOf a.toNat D.cache with
      | some s => exact (h.cache _ (lastOf_mem hl)).2
      | none =>
        have hlt : a.toNat < D.kept.length := by omega
        simp only [Option.getD_none]
        rw [List.getD_eq_getElem?_getD, List.getElem?_eq_getElem hlt]
        exact h.kept _ (List.getElem_mem hlt)
end DiskS

namespace Eng
attribute [local irreducible] Ops Segs Run Spec

theorem sector_agg : aggOf Try.prog 57 = some true := by kernel_rfl
theorem sector_info : Try.prog.info? 57 = some Try.t57 := by kernel_rfl
theorem zl64_bvs : zl64_intu80 = bvs (List.replicate 64 0) := rfl

set_option maxHeartbeats 400000 in
theorem disk_Read (d : Nat) (D : DiskS) (at_ : Int) (F : Hp) :
    Spec Try.prog 21 [.pointer (some ⟨d, 0, none⟩), .int .i64 at_].toArray F [DiskP d D] fun v H => v = .tuple [.agg (bvs (D.read at_).1).toArray, .int .i64 (D.read at_).2].toArray ∧ H = [DiskP d D] := by
  refine Spec.enter (n := 61) Try.func21 ok_disk_Disk_Read rfl (by simp) ?_
  unfold ec_disk_Disk_Read
  simp only [argFr, Nat.reduceAdd]
  refine Run.open_ s0 fun G ⟨kb, ca, cc, hok, hG⟩ => ?_
  subst hG
  simp only [List.cons_append, List.nil_append]
  have hfew := hok.few
  (repeat (first | (apply Ops.q; rfl; rfl) | (apply Ops.gyB; rfl; rfl) | (apply Ops.gnB; rfl; decide) | (apply Ops.add; rfl; rfl; (constructor <;> omega)) | (apply Ops.sub; rfl; rfl; (constructor <;> omega)) | (apply Ops.rem; rfl; rfl; omega; omega) | (apply Ops.quo; rfl; rfl; (constructor <;> omega); omega) | (apply Ops.ld; rfl; (first | exact m0 | exact m1 | exact m2 | exact m3 | exact m4 | exact m5 | exact m6); rfl) | (apply Ops.st0; rfl; rfl; rfl; rfl; (first | exact u0 | exact u1 | exact u2 | exact u3 | exact u4 | exact u5); focus (simp; done)) | refine Ops.nil ?_ | refine Segs.nil ?_ | (apply Segs.oneS; rfl) | refine Run.seq ?_ | refine Run.reg ?_ | refine Run.block ?_ | refine Run.blk ?_ | refine Run.skip ?_))
  refine Ops.alloc fun b4 => ?_
  (repeat (first | (apply Ops.q; rfl; rfl) | (apply Ops.gyB; rfl; rfl) | (apply Ops.gnB; rfl; decide) | (apply Ops.add; rfl; rfl; (constructor <;> omega)) | (apply Ops.sub; rfl; rfl; (constructor <;> omega)) | (apply Ops.rem; rfl; rfl; omega; omega) | (apply Ops.quo; rfl; rfl; (constructor <;> omega); omega) | (apply Ops.ld; rfl; (first | exact m0 | exact m1 | exact m2 | exact m3 | exact m4 | exact m5 | exact m6); rfl) | (apply Ops.st0; rfl; rfl; rfl; rfl; (first | exact u0 | exact u1 | exact u2 | exact u3 | exact u4 | exact u5); focus (simp; done)) | refine Ops.nil ?_ | refine Segs.nil ?_ | (apply Segs.oneS; rfl) | refine Run.seq ?_ | refine Run.reg ?_ | refine Run.block ?_ | refine Run.blk ?_ | refine Run.skip ?_))
  have hfold : ∀ (L : List Value), ∀ h, seps [.pt b4 (.cells L.toArray 57 (0, 0)), .pt d (.cells [.slice (some ⟨kb, 0, none⟩) D.kept.length D.kept.length, .slice ca D.cache.length cc, .bool D.down, .int .i64 D.fate, .int .u64 D.keeps, .int .i64 D.steps].toArray 53 (0, 0)),
      .pt kb (.cells (D.kept.flatMap bvs).toArray 57 (0, 0)), OwnS ca D.cache.length cc 65 76 (D.cache.flatMap wv)] h → seps [DiskP d D] h :=
    fun L h q => take_sub (.cons s0 .nil) h (fold_grp (.cons s1 (.cons s1 (.cons s1 .nil))) ⟨kb, ca, cc, hok, rfl⟩ h q)
  have hz : (zl64_intu80.drop 0).take 64 = bvs (List.replicate 64 0) := rfl
  have hzs : ∀ L : List Value, L.length = 64 → List.take 0 L ++ zl64_intu80 ++ List.drop (0 + 64) L = zl64_intu80 := by intro L h; simp [List.drop_eq_nil_of_le (show L.length ≤ 64 by omega)]
  by_cases hd : D.down = true
  · have hm : D.read at_ = (List.replicate 64 0, 3) := by unfold DiskS.read; rw [if_pos hd]
    rw [hm]
    refine Run.condT (by rw [← hd]; rfl) ?_
    (repeat (first | (apply Ops.q; rfl; rfl) | (apply Ops.gyB; rfl; rfl) | (apply Ops.gnB; rfl; decide) | (apply Ops.add; rfl; rfl; (constructor <;> omega)) | (apply Ops.sub; rfl; rfl; (constructor <;> omega)) | (apply Ops.rem; rfl; rfl; omega; omega) | (apply Ops.quo; rfl; rfl; (constructor <;> omega); omega) | (apply Ops.ld; rfl; (first | exact m0 | exact m1 | exact m2 | exact m3 | exact m4 | exact m5 | exact m6); rfl) | (apply Ops.st0; rfl; rfl; rfl; rfl; (first | exact u0 | exact u1 | exact u2 | exact u3 | exact u4 | exact u5); focus (simp; done)) | refine Ops.nil ?_ | refine Segs.nil ?_ | (apply Segs.oneS; rfl) | refine Run.seq ?_ | refine Run.reg ?_ | refine Run.block ?_ | refine Run.blk ?_ | refine Run.skip ?_))
    refine Ops.bld zl64_intu80 rfl rfl ?_
    refine Ops.stn0 (vs := zl64_intu80) rfl rfl rfl rfl (by rw [zl64_bvs]; exact bvs_one _) u0 (by simp [zl64_intu80]) (by simp [zl64_intu80]) ?_
    rw [hzs _ rfl]
    (repeat (first | (apply Ops.q; rfl; rfl) | (apply Ops.gyB; rfl; rfl) | (apply Ops.gnB; rfl; decide) | (apply Ops.add; rfl; rfl; (constructor <;> omega)) | (apply Ops.sub; rfl; rfl; (constructor <;> omega)) | (apply Ops.rem; rfl; rfl; omega; omega) | (apply Ops.quo; rfl; rfl; (constructor <;> omega); omega) | (apply Ops.ld; rfl; (first | exact m0 | exact m1 | exact m2 | exact m3 | exact m4 | exact m5 | exact m6); rfl) | (apply Ops.st0; rfl; rfl; rfl; rfl; (first | exact u0 | exact u1 | exact u2 | exact u3 | exact u4 | exact u5); focus (simp; done)) | refine Ops.nil ?_ | refine Segs.nil ?_ | (apply Segs.oneS; rfl) | refine Run.seq ?_ | refine Run.reg ?_ | refine Run.block ?_ | refine Run.blk ?_ | refine Run.skip ?_))
    exact Run.ret Try.func21 (rs := [.cell 4 57, .tmp 5]) rfl (.celln rfl sector_agg sector_info (.inl m0) (Nat.le_refl 64) (.tmp rfl .nil)) (hfold _) ⟨rfl, rfl⟩
  refine Run.condF (by have : D.down = false := by simpa using hd
                       rw [← this]; rfl) ?_
  (repeat (first | (apply Ops.q; rfl; rfl) | (apply Ops.gyB; rfl; rfl) | (apply Ops.gnB; rfl; decide) | (apply Ops.add; rfl; rfl; (constructor <;> omega)) | (apply Ops.sub; rfl; rfl; (constructor <;> omega)) | (apply Ops.rem; rfl; rfl; omega; omega) | (apply Ops.quo; rfl; rfl; (constructor <;> omega); omega) | (apply Ops.ld; rfl; (first | exact m0 | exact m1 | exact m2 | exact m3 | exact m4 | exact m5 | exact m6); rfl) | (apply Ops.st0; rfl; rfl; rfl; rfl; (first | exact u0 | exact u1 | exact u2 | exact u3 | exact u4 | exact u5); focus (simp; done)) | refine Ops.nil ?_ | refine Segs.nil ?_ | (apply Segs.oneS; rfl) | refine Run.seq ?_ | refine Run.reg ?_ | refine Run.block ?_ | refine Run.blk ?_ | refine Run.skip ?_))
  have bad : ∀ (hb : at_ < 0 ∨ (D.kept.length : Int) ≤ at_), D.read at_ = (List.replicate 64 0, 2) := fun hb => by unfold DiskS.read; rw [if_neg hd, if_pos hb]
  by_cases h1 : at_ < 0
  · have e1 : decide (at_ < 0) = true := by simpa using h1
    simp only [e1]
    (repeat (first | (apply Ops.q; rfl; rfl) | (apply Ops.gyB; rfl; rfl) | (apply Ops.gnB; rfl; decide) | (apply Ops.add; rfl; rfl; (constructor <;> omega)) | (apply Ops.sub; rfl; rfl; (constructor <;> omega)) | (apply Ops.rem; rfl; rfl; omega; omega) | (apply Ops.quo; rfl; rfl; (constructor <;> omega); omega) | (apply Ops.ld; rfl; (first | exact m0 | exact m1 | exact m2 | exact m3 | exact m4 | exact m5 | exact m6); rfl) | (apply Ops.st0; rfl; rfl; rfl; rfl; (first | exact u0 | exact u1 | exact u2 | exact u3 | exact u4 | exact u5); focus (simp; done)) | refine Ops.nil ?_ | refine Segs.nil ?_ | (apply Segs.oneS; rfl) | refine Run.seq ?_ | refine Run.reg ?_ | refine Run.block ?_ | refine Run.blk ?_ | refine Run.skip ?_))
    refine Run.condT rfl ?_
    rw [bad (.inl h1)]
    (repeat (first | (apply Ops.q; rfl; rfl) | (apply Ops.gyB; rfl; rfl) | (apply Ops.gnB; rfl; decide) | (apply Ops.add; rfl; rfl; (constructor <;> omega)) | (apply Ops.sub; rfl; rfl; (constructor <;> omega)) | (apply Ops.rem; rfl; rfl; omega; omega) | (apply Ops.quo; rfl; rfl; (constructor <;> omega); omega) | (apply Ops.ld; rfl; (first | exact m0 | exact m1 | exact m2 | exact m3 | exact m4 | exact m5 | exact m6); rfl) | (apply Ops.st0; rfl; rfl; rfl; rfl; (first | exact u0 | exact u1 | exact u2 | exact u3 | exact u4 | exact u5); focus (simp; done)) | refine Ops.nil ?_ | refine Segs.nil ?_ | (apply Segs.oneS; rfl) | refine Run.seq ?_ | refine Run.reg ?_ | refine Run.block ?_ | refine Run.blk ?_ | refine Run.skip ?_))
    refine Ops.bld zl64_intu80 rfl rfl ?_
    refine Ops.stn0 (vs := zl64_intu80) rfl rfl rfl rfl (by rw [zl64_bvs]; exact bvs_one _) u0 (by simp [zl64_intu80]) (by simp [zl64_intu80]) ?_
    rw [hzs _ rfl]
    (repeat (first | (apply Ops.q; rfl; rfl) | (apply Ops.gyB; rfl; rfl) | (apply Ops.gnB; rfl; decide) | (apply Ops.add; rfl; rfl; (constructor <;> omega)) | (apply Ops.sub; rfl; rfl; (constructor <;> omega)) | (apply Ops.rem; rfl; rfl; omega; omega) | (apply Ops.quo; rfl; rfl; (constructor <;> omega); omega) | (apply Ops.ld; rfl; (first | exact m0 | exact m1 | exact m2 | exact m3 | exact m4 | exact m5 | exact m6); rfl) | (apply Ops.st0; rfl; rfl; rfl; rfl; (first | exact u0 | exact u1 | exact u2 | exact u3 | exact u4 | exact u5); focus (simp; done)) | refine Ops.nil ?_ | refine Segs.nil ?_ | (apply Segs.oneS; rfl) | refine Run.seq ?_ | refine Run.reg ?_ | refine Run.block ?_ | refine Run.blk ?_ | refine Run.skip ?_))
    exact Run.ret Try.func21 (rs := [.cell 4 57, .tmp 5]) rfl (.celln rfl sector_agg sector_info (.inl m0) (Nat.le_refl 64) (.tmp rfl .nil)) (hfold _) ⟨rfl, rfl⟩
  have e1 : decide (at_ < 0) = false := by simpa using h1
  simp only [e1]
  (repeat (first | (apply Ops.q; rfl; rfl) | (apply Ops.gyB; rfl; rfl) | (apply Ops.gnB; rfl; decide) | (apply Ops.add; rfl; rfl; (constructor <;> omega)) | (apply Ops.sub; rfl; rfl; (constructor <;> omega)) | (apply Ops.rem; rfl; rfl; omega; omega) | (apply Ops.quo; rfl; rfl; (constructor <;> omega); omega) | (apply Ops.ld; rfl; (first | exact m0 | exact m1 | exact m2 | exact m3 | exact m4 | exact m5 | exact m6); rfl) | (apply Ops.st0; rfl; rfl; rfl; rfl; (first | exact u0 | exact u1 | exact u2 | exact u3 | exact u4 | exact u5); focus (simp; done)) | refine Ops.nil ?_ | refine Segs.nil ?_ | (apply Segs.oneS; rfl) | refine Run.seq ?_ | refine Run.reg ?_ | refine Run.block ?_ | refine Run.blk ?_ | refine Run.skip ?_))
  refine Run.condD rfl (fun h2 => ?_) (fun h2 => ?_)
  · rw [bad (.inr h2)]
    (repeat (first | (apply Ops.q; rfl; rfl) | (apply Ops.gyB; rfl; rfl) | (apply Ops.gnB; rfl; decide) | (apply Ops.add; rfl; rfl; (constructor <;> omega)) | (apply Ops.sub; rfl; rfl; (constructor <;> omega)) | (apply Ops.rem; rfl; rfl; omega; omega) | (apply Ops.quo; rfl; rfl; (constructor <;> omega); omega) | (apply Ops.ld; rfl; (first | exact m0 | exact m1 | exact m2 | exact m3 | exact m4 | exact m5 | exact m6); rfl) | (apply Ops.st0; rfl; rfl; rfl; rfl; (first | exact u0 | exact u1 | exact u2 | exact u3 | exact u4 | exact u5); focus (simp; done)) | refine Ops.nil ?_ | refine Segs.nil ?_ | (apply Segs.oneS; rfl) | refine Run.seq ?_ | refine Run.reg ?_ | refine Run.block ?_ | refine Run.blk ?_ | refine Run.skip ?_))
    refine Ops.bld zl64_intu80 rfl rfl ?_
    refine Ops.stn0 (vs := zl64_intu80) rfl rfl rfl rfl (by rw [zl64_bvs]; exact bvs_one _) u0 (by simp [zl64_intu80]) (by simp [zl64_intu80]) ?_
    rw [hzs _ rfl]
    (repeat (first | (apply Ops.q; rfl; rfl) | (apply Ops.gyB; rfl; rfl) | (apply Ops.gnB; rfl; decide) | (apply Ops.add; rfl; rfl; (constructor <;> omega)) | (apply Ops.sub; rfl; rfl; (constructor <;> omega)) | (apply Ops.rem; rfl; rfl; omega; omega) | (apply Ops.quo; rfl; rfl; (constructor <;> omega); omega) | (apply Ops.ld; rfl; (first | exact m0 | exact m1 | exact m2 | exact m3 | exact m4 | exact m5 | exact m6); rfl) | (apply Ops.st0; rfl; rfl; rfl; rfl; (first | exact u0 | exact u1 | exact u2 | exact u3 | exact u4 | exact u5); focus (simp; done)) | refine Ops.nil ?_ | refine Segs.nil ?_ | (apply Segs.oneS; rfl) | refine Run.seq ?_ | refine Run.reg ?_ | refine Run.block ?_ | refine Run.blk ?_ | refine Run.skip ?_))
    exact Run.ret Try.func21 (rs := [.cell 4 57, .tmp 5]) rfl (.celln rfl sector_agg sector_info (.inl m0) (Nat.le_refl 64) (.tmp rfl .nil)) (hfold _) ⟨rfl, rfl⟩
  have good : D.read at_ = ((DiskS.lastOf at_.toNat D.cache).getD (D.kept.getD at_.toNat []), 0) := by unfold DiskS.read; rw [if_neg hd, if_neg (by omega)]
  rw [good]
  (repeat (first | (apply Ops.q; rfl; rfl) | (apply Ops.gyB; rfl; rfl) | (apply Ops.gnB; rfl; decide) | (apply Ops.add; rfl; rfl; (constructor <;> omega)) | (apply Ops.sub; rfl; rfl; (constructor <;> omega)) | (apply Ops.rem; rfl; rfl; omega; omega) | (apply Ops.quo; rfl; rfl; (constructor <;> omega); omega) | (apply Ops.ld; rfl; (first | exact m0 | exact m1 | exact m2 | exact m3 | exact m4 | exact m5 | exact m6); rfl) | (apply Ops.st0; rfl; rfl; rfl; rfl; (first | exact u0 | exact u1 | exact u2 | exact u3 | exact u4 | exact u5); focus (simp; done)) | refine Ops.nil ?_ | refine Segs.nil ?_ | (apply Segs.oneS; rfl) | refine Run.seq ?_ | refine Run.reg ?_ | refine Run.block ?_ | refine Run.blk ?_ | refine Run.skip ?_))
  refine Run.loopI (ι := Nat) (fun k => k) (fun k => k ≤ D.cache.length ∧ DiskS.lastOf at_.toNat (D.cache.drop k) = none)
    (fun k => [(6, .int .i64 ((k : Int) - 1)), (5, .int .i64 0), (4, .pointer (some ⟨b4, 0, none⟩)), (0, .pointer (some ⟨d, 0, none⟩)), (1, .int .i64 at_)])
    (fun _ => [.pt b4 (.cells zl64_intu80.toArray 57 (0, 0)), .pt d (.cells [.slice (some ⟨kb, 0, none⟩) D.kept.length D.kept.length, .slice ca D.cache.length cc, .bool D.down, .int .i64 D.fate, .int .u64 D.keeps, .int .i64 D.steps].toArray 53 (0, 0)),
      .pt kb (.cells (D.kept.flatMap bvs).toArray 57 (0, 0)), OwnS ca D.cache.length cc 65 76 (D.cache.flatMap wv)])
    D.cache.length ⟨Nat.le_refl _, by simp [DiskS.lastOf]⟩ (.cons rfl (.cons rfl (.cons rfl (.cons rfl (.cons rfl .nil))))) (fun _ h => h) ?_
  rintro k ⟨hk, hnone⟩ ih
  dsimp only at ih ⊢
  unfold ec_disk_Disk_Read_L0
  (repeat (first | (apply Ops.q; rfl; rfl) | (apply Ops.gyB; rfl; rfl) | (apply Ops.gnB; rfl; decide) | (apply Ops.add; rfl; rfl; (constructor <;> omega)) | (apply Ops.sub; rfl; rfl; (constructor <;> omega)) | (apply Ops.rem; rfl; rfl; omega; omega) | (apply Ops.quo; rfl; rfl; (constructor <;> omega); omega) | (apply Ops.ld; rfl; (first | exact m0 | exact m1 | exact m2 | exact m3 | exact m4 | exact m5 | exact m6); rfl) | (apply Ops.st0; rfl; rfl; rfl; rfl; (first | exact u0 | exact u1 | exact u2 | exact u3 | exact u4 | exact u5); focus (simp; done)) | refine Ops.nil ?_ | refine Segs.nil ?_ | (apply Segs.oneS; rfl) | refine Run.seq ?_ | refine Run.reg ?_ | refine Run.block ?_ | refine Run.blk ?_ | refine Run.skip ?_))
  refine Run.condD rfl (fun hge => ?_) (fun hlt => ?_)
  · refine Run.open_ s3 fun G ⟨hxs, hG⟩ => ?_
    rcases hG with ⟨_, hn, _, _⟩ | ⟨cb, spare, hca, hnc, hcap, hG⟩
    · omega
    subst hca; subst hG
    simp only [List.cons_append, List.nil_append]
    have hk1 : k - 1 < D.cache.length := by omega
    have hel : D.cache[k - 1]? = some D.cache[k - 1] := List.getElem?_eq_getElem hk1
    have hwl : ∀ e ∈ D.cache, (wv e).length = 65 := fun e he => wv_len (hok.cache e he).2
    have hget := flat_get D.cache spare (k - 1) _ hwl hel
    obtain ⟨hat, hs64⟩ := hok.cache _ (List.getElem_mem hk1)
    have hdrop : D.cache.drop (k - 1) = D.cache[k - 1] :: D.cache.drop k := by rw [List.drop_eq_getElem_cons hk1]; congr 2; omega
    have hsplit : D.cache = D.cache.take (k - 1) ++ D.cache.drop (k - 1) := (List.take_append_drop _ _).symm
    generalize D.cache[k - 1] = e at *
    obtain ⟨a0, s⟩ := e
    dsimp only at hat hs64
    have ek : ((k : Int) - 1).toNat = k - 1 := by omega
    have hlen : (List.flatMap wv D.cache ++ spare).length ≥ (k - 1) * 65 + 65 := by
      rw [List.length_append, hxs]
      have := Nat.mul_le_mul_right 65 (show k - 1 + 1 ≤ D.cache.length by omega)
      omega
    have hget0 : (List.flatMap wv D.cache ++ spare)[(k - 1) * 65]? = some (.int .i64 a0) := by
      have := congrArg (fun l => l[0]?) hget
      simpa [List.getElem?_take, List.getElem?_drop, wv] using this
    have hget1 : ((List.flatMap wv D.cache ++ spare).drop ((k - 1) * 65 + 1)).take 64 = bvs s := by
      have := congrArg (fun l => l.drop 1) hget
      simp only [List.drop_take, List.drop_drop] at this
      simpa [wv] using this
    (repeat (first | (apply Ops.q; rfl; rfl) | (apply Ops.gyB; rfl; rfl) | (apply Ops.gnB; rfl; decide) | (apply Ops.add; rfl; rfl; (constructor <;> omega)) | (apply Ops.sub; rfl; rfl; (constructor <;> omega)) | (apply Ops.rem; rfl; rfl; omega; omega) | (apply Ops.quo; rfl; rfl; (constructor <;> omega); omega) | (apply Ops.ld; rfl; (first | exact m0 | exact m1 | exact m2 | exact m3 | exact m4 | exact m5 | exact m6); rfl) | (apply Ops.st0; rfl; rfl; rfl; rfl; (first | exact u0 | exact u1 | exact u2 | exact u3 | exact u4 | exact u5); focus (simp; done)) | refine Ops.nil ?_ | refine Segs.nil ?_ | (apply Segs.oneS; rfl) | refine Run.seq ?_ | refine Run.reg ?_ | refine Run.block ?_ | refine Run.blk ?_ | refine Run.skip ?_))
    refine Ops.ixS rfl rfl ⟨by omega, by omega⟩ ?_
    simp only [ek]
    (repeat (first | (apply Ops.q; rfl; rfl) | (apply Ops.gyB; rfl; rfl) | (apply Ops.gnB; rfl; decide) | (apply Ops.add; rfl; rfl; (constructor <;> omega)) | (apply Ops.sub; rfl; rfl; (constructor <;> omega)) | (apply Ops.rem; rfl; rfl; omega; omega) | (apply Ops.quo; rfl; rfl; (constructor <;> omega); omega) | (apply Ops.ld; rfl; (first | exact m0 | exact m1 | exact m2 | exact m3 | exact m4 | exact m5 | exact m6); rfl) | (apply Ops.st0; rfl; rfl; rfl; rfl; (first | exact u0 | exact u1 | exact u2 | exact u3 | exact u4 | exact u5); focus (simp; done)) | refine Ops.nil ?_ | refine Segs.nil ?_ | (apply Segs.oneS; rfl) | refine Run.seq ?_ | refine Run.reg ?_ | refine Run.block ?_ | refine Run.blk ?_ | refine Run.skip ?_))
    refine Ops.ld (v := .int .i64 a0) rfl m0 (by rw [Nat.add_zero, Nat.zero_add]; exact hget0) ?_
    (repeat (first | (apply Ops.q; rfl; rfl) | (apply Ops.gyB; rfl; rfl) | (apply Ops.gnB; rfl; decide) | (apply Ops.add; rfl; rfl; (constructor <;> omega)) | (apply Ops.sub; rfl; rfl; (constructor <;> omega)) | (apply Ops.rem; rfl; rfl; omega; omega) | (apply Ops.quo; rfl; rfl; (constructor <;> omega); omega) | (apply Ops.ld; rfl; (first | exact m0 | exact m1 | exact m2 | exact m3 | exact m4 | exact m5 | exact m6); rfl) | (apply Ops.st0; rfl; rfl; rfl; rfl; (first | exact u0 | exact u1 | exact u2 | exact u3 | exact u4 | exact u5); focus (simp; done)) | refine Ops.nil ?_ | refine Segs.nil ?_ | (apply Segs.oneS; rfl) | refine Run.seq ?_ | refine Run.reg ?_ | refine Run.block ?_ | refine Run.blk ?_ | refine Run.skip ?_))
    refine Run.condD rfl (fun he => ?_) (fun he => ?_)
    · have hl : DiskS.lastOf at_.toNat D.cache = some s := by
        rw [hsplit, lastOf_append, hdrop]
        simp only [DiskS.lastOf, hnone]
        rw [if_pos (by omega)]; rfl
      rw [hl]
      (repeat (first | (apply Ops.q; rfl; rfl) | (apply Ops.gyB; rfl; rfl) | (apply Ops.gnB; rfl; decide) | (apply Ops.add; rfl; rfl; (constructor <;> omega)) | (apply Ops.sub; rfl; rfl; (constructor <;> omega)) | (apply Ops.rem; rfl; rfl; omega; omega) | (apply Ops.quo; rfl; rfl; (constructor <;> omega); omega) | (apply Ops.ld; rfl; (first | exact m0 | exact m1 | exact m2 | exact m3 | exact m4 | exact m5 | exact m6); rfl) | (apply Ops.st0; rfl; rfl; rfl; rfl; (first | exact u0 | exact u1 | exact u2 | exact u3 | exact u4 | exact u5); focus (simp; done)) | refine Ops.nil ?_ | refine Segs.nil ?_ | (apply Segs.oneS; rfl) | refine Run.seq ?_ | refine Run.reg ?_ | refine Run.block ?_ | refine Run.blk ?_ | refine Run.skip ?_))
      refine Ops.ixS rfl rfl ⟨by omega, by omega⟩ ?_
      simp only [ek]
      (repeat (first | (apply Ops.q; rfl; rfl) | (apply Ops.gyB; rfl; rfl) | (apply Ops.gnB; rfl; decide) | (apply Ops.add; rfl; rfl; (constructor <;> omega)) | (apply Ops.sub; rfl; rfl; (constructor <;> omega)) | (apply Ops.rem; rfl; rfl; omega; omega) | (apply Ops.quo; rfl; rfl; (constructor <;> omega); omega) | (apply Ops.ld; rfl; (first | exact m0 | exact m1 | exact m2 | exact m3 | exact m4 | exact m5 | exact m6); rfl) | (apply Ops.st0; rfl; rfl; rfl; rfl; (first | exact u0 | exact u1 | exact u2 | exact u3 | exact u4 | exact u5); focus (simp; done)) | refine Ops.nil ?_ | refine Segs.nil ?_ | (apply Segs.oneS; rfl) | refine Run.seq ?_ | refine Run.reg ?_ | refine Run.block ?_ | refine Run.blk ?_ | refine Run.skip ?_))
      refine Ops.ldn rfl m0 (by rw [Nat.zero_add]; omega) ?_
      simp only [Nat.zero_add, hget1]
      refine Ops.stn0 (vs := bvs s) rfl rfl rfl (by rw [bvs_len, hs64]) (bvs_one s) u1 (by simp [zl64_intu80]) (by intro h; have := congrArg List.length h; rw [bvs_len, hs64] at this; cases this) ?_
      have hfull : List.take 0 zl64_intu80 ++ bvs s ++ List.drop (0 + 64) zl64_intu80 = bvs s := by simp [zl64_intu80]
      rw [hfull]
      (repeat (first | (apply Ops.q; rfl; rfl) | (apply Ops.gyB; rfl; rfl) | (apply Ops.gnB; rfl; decide) | (apply Ops.add; rfl; rfl; (constructor <;> omega)) | (apply Ops.sub; rfl; rfl; (constructor <;> omega)) | (apply Ops.rem; rfl; rfl; omega; omega) | (apply Ops.quo; rfl; rfl; (constructor <;> omega); omega) | (apply Ops.ld; rfl; (first | exact m0 | exact m1 | exact m2 | exact m3 | exact m4 | exact m5 | exact m6); rfl) | (apply Ops.st0; rfl; rfl; rfl; rfl; (first | exact u0 | exact u1 | exact u2 | exact u3 | exact u4 | exact u5); focus (simp; done)) | refine Ops.nil ?_ | refine Segs.nil ?_ | (apply Segs.oneS; rfl) | refine Run.seq ?_ | refine Run.reg ?_ | refine Run.block ?_ | refine Run.blk ?_ | refine Run.skip ?_))
      refine Run.ret Try.func21 (rs := [.cell 4 57, .tmp 5]) rfl (.celln rfl sector_agg sector_info (.inl m1) (by rw [bvs_len, hs64]; exact Nat.le_refl _) (.tmp rfl .nil)) (fun h q => hfold _ h (take_sub (.cons s1 (.cons s1 (.cons s1 (.cons s0 .nil)))) h (fold_grp (I := OwnI _ _ _ _ _ _) (.cons s0 .nil) ⟨hxs, .inr ⟨cb, spare, rfl, hnc, hcap, rfl⟩⟩ h q))) ⟨?_, rfl⟩
      have : (List.drop 0 (bvs s)).take Try.t57.size = bvs s := by rw [List.drop_zero]; exact List.take_of_length_le (by rw [bvs_len, hs64]; exact Nat.le_refl _)
      rw [this]; rfl
    · (repeat (first | (apply Ops.q; rfl; rfl) | (apply Ops.gyB; rfl; rfl) | (apply Ops.gnB; rfl; decide) | (apply Ops.add; rfl; rfl; (constructor <;> omega)) | (apply Ops.sub; rfl; rfl; (constructor <;> omega)) | (apply Ops.rem; rfl; rfl; omega; omega) | (apply Ops.quo; rfl; rfl; (constructor <;> omega); omega) | (apply Ops.ld; rfl; (first | exact m0 | exact m1 | exact m2 | exact m3 | exact m4 | exact m5 | exact m6); rfl) | (apply Ops.st0; rfl; rfl; rfl; rfl; (first | exact u0 | exact u1 | exact u2 | exact u3 | exact u4 | exact u5); focus (simp; done)) | refine Ops.nil ?_ | refine Segs.nil ?_ | (apply Segs.oneS; rfl) | refine Run.seq ?_ | refine Run.reg ?_ | refine Run.block ?_ | refine Run.blk ?_ | refine Run.skip ?_))
      refine Run.lp (Run.again (ih (k - 1) (by omega) ⟨by omega, ?_⟩) (.cons (by rw [show ((k - 1 : Nat) : Int) - 1 = (k : Int) - 1 - 1 by omega]; rfl) (.cons rfl (.cons rfl (.cons rfl (.cons rfl .nil))))) ?_)
      · rw [hdrop]
        simp only [DiskS.lastOf, hnone]
        rw [if_neg (by omega)]
      · exact fun h q => take_sub (.cons s1 (.cons s1 (.cons s1 (.cons s0 .nil)))) h (fold_grp (I := OwnI _ _ _ _ _ _) (.cons s0 .nil) ⟨hxs, .inr ⟨cb, spare, rfl, hnc, hcap, rfl⟩⟩ h q)
  · have : k = 0 := by omega
    subst this
    rw [List.drop_zero] at hnone
    rw [hnone]
    refine Run.exit rfl ?_
    have hat : at_.toNat < D.kept.length := by omega
    have hel : D.kept[at_.toNat]? = some D.kept[at_.toNat] := List.getElem?_eq_getElem hat
    have hget := flat_get D.kept [] at_.toNat _ (fun s hs => by rw [bvs_len, hok.kept s hs]) hel
    have hs64 := hok.kept _ (List.getElem_mem hat)
    have hgd : D.kept.getD at_.toNat [] = D.kept[at_.toNat] := by rw [List.getD_eq_getElem?_getD, hel]; rfl
    simp only [Option.getD_none, hgd]
    generalize D.kept[at_.toNat] = s at *
    have hkl : (D.kept.flatMap bvs).length = D.kept.length * 64 := flat_len D.kept (fun s hs => by rw [bvs_len, hok.kept s hs])
    have hat64 : at_.toNat * 64 + 64 ≤ D.kept.length * 64 := by have := Nat.mul_le_mul_right 64 (show at_.toNat + 1 ≤ D.kept.length by omega); omega
    rw [List.append_nil] at hget
    (repeat (first | (apply Ops.q; rfl; rfl) | (apply Ops.gyB; rfl; rfl) | (apply Ops.gnB; rfl; decide) | (apply Ops.add; rfl; rfl; (constructor <;> omega)) | (apply Ops.sub; rfl; rfl; (constructor <;> omega)) | (apply Ops.rem; rfl; rfl; omega; omega) | (apply Ops.quo; rfl; rfl; (constructor <;> omega); omega) | (apply Ops.ld; rfl; (first | exact m0 | exact m1 | exact m2 | exact m3 | exact m4 | exact m5 | exact m6); rfl) | (apply Ops.st0; rfl; rfl; rfl; rfl; (first | exact u0 | exact u1 | exact u2 | exact u3 | exact u4 | exact u5); focus (simp; done)) | refine Ops.nil ?_ | refine Segs.nil ?_ | (apply Segs.oneS; rfl) | refine Run.seq ?_ | refine Run.reg ?_ | refine Run.block ?_ | refine Run.blk ?_ | refine Run.skip ?_))
    refine Ops.ixS rfl rfl ⟨by omega, by omega⟩ ?_
    refine Ops.ldn rfl m2 (by rw [hkl, Nat.zero_add]; omega) ?_
    simp only [Nat.zero_add, hget]
    refine Ops.stn0 (vs := bvs s) rfl rfl rfl (by rw [bvs_len, hs64]) (bvs_one s) u0 (by simp [zl64_intu80]) (by intro h; have := congrArg List.length h; rw [bvs_len, hs64] at this; cases this) ?_
    have hfull : List.take 0 zl64_intu80 ++ bvs s ++ List.drop (0 + 64) zl64_intu80 = bvs s := by simp [zl64_intu80]
    rw [hfull]
    (repeat (first | (apply Ops.q; rfl; rfl) | (apply Ops.gyB; rfl; rfl) | (apply Ops.gnB; rfl; decide) | (apply Ops.add; rfl; rfl; (constructor <;> omega)) | (apply Ops.sub; rfl; rfl; (constructor <;> omega)) | (apply Ops.rem; rfl; rfl; omega; omega) | (apply Ops.quo; rfl; rfl; (constructor <;> omega); omega) | (apply Ops.ld; rfl; (first | exact m0 | exact m1 | exact m2 | exact m3 | exact m4 | exact m5 | exact m6); rfl) | (apply Ops.st0; rfl; rfl; rfl; rfl; (first | exact u0 | exact u1 | exact u2 | exact u3 | exact u4 | exact u5); focus (simp; done)) | refine Ops.nil ?_ | refine Segs.nil ?_ | (apply Segs.oneS; rfl) | refine Run.seq ?_ | refine Run.reg ?_ | refine Run.block ?_ | refine Run.blk ?_ | refine Run.skip ?_))
    refine Run.ret Try.func21 (rs := [.cell 4 57, .tmp 5]) rfl (.celln rfl sector_agg sector_info (.inl m0) (by rw [bvs_len, hs64]; exact Nat.le_refl _) (.tmp rfl .nil)) (hfold _) ⟨?_, rfl⟩
    have : (List.drop 0 (bvs s)).take Try.t57.size = bvs s := by rw [List.drop_zero]; exact List.take_of_length_le (by rw [bvs_len, hs64]; exact Nat.le_refl _)
    rw [this]; rfl

theorem zeros_flat (n : Nat) : zerosL zl64_intu80 n = (List.replicate n (List.replicate 64 (0 : UInt8))).flatMap bvs := by
  unfold zerosL
  rw [List.flatMap_replicate, zl64_bvs]

theorem disk_New (n : Int) (hn : -9223372036854775808 ≤ n ∧ n < 9223372036854775808) (F : Hp) :
    Spec Try.prog 8 [.int .i64 n].toArray F [] fun v H => ∃ d, v = .pointer (some ⟨d, 0, none⟩) ∧ H = [DiskP d (DiskS.new n)] := by
  refine Spec.enter (n := 9) Try.func8 ok_disk_New rfl (by simp) ?_
  unfold ec_disk_New
  simp only [argFr, Nat.reduceAdd]
  (repeat (first | (apply Ops.q; rfl; rfl) | (apply Ops.gyB; rfl; rfl) | (apply Ops.gnB; rfl; decide) | (apply Ops.add; rfl; rfl; (constructor <;> omega)) | (apply Ops.sub; rfl; rfl; (constructor <;> omega)) | (apply Ops.rem; rfl; rfl; omega; omega) | (apply Ops.quo; rfl; rfl; (constructor <;> omega); omega) | (apply Ops.ld; rfl; (first | exact m0 | exact m1 | exact m2 | exact m3 | exact m4 | exact m5 | exact m6); rfl) | (apply Ops.st0; rfl; rfl; rfl; rfl; (first | exact u0 | exact u1 | exact u2 | exact u3 | exact u4 | exact u5); focus (simp; done)) | refine Ops.nil ?_ | refine Segs.nil ?_ | (apply Segs.oneS; rfl) | refine Run.seq ?_ | refine Run.reg ?_ | refine Run.block ?_ | refine Run.blk ?_ | refine Run.skip ?_))
  have e1 : (if (4096 : Int) < n then (4096 : Int) else n) = min n 4096 := by split <;> omega
  have e2 : (if (if (4096 : Int) < n then (4096 : Int) else n) > 1 then (if (4096 : Int) < n then (4096 : Int) else n) else 1) = max 1 (min n 4096) := by rw [e1]; split <;> omega
  refine Ops.mks (n := max 1 (min n 4096)) (m := max 1 (min n 4096)) (by rw [← e2]; rfl) (by rw [← e2]; rfl) (by omega) (Int.le_refl _) (by omega) fun kb => ?_
  refine Ops.bld [.slice (some ⟨kb, 0, none⟩) (max 1 (min n 4096)).toNat (max 1 (min n 4096)).toNat, .slice none 0 0, .bool false, .int .i64 (-1), .int .u64 0, .int .i64 0] rfl rfl ?_
  refine Ops.box (vs := [.slice (some ⟨kb, 0, none⟩) (max 1 (min n 4096)).toNat (max 1 (min n 4096)).toNat, .slice none 0 0, .bool false, .int .i64 (-1), .int .u64 0, .int .i64 0]) rfl rfl fun d => ?_
  (repeat (first | (apply Ops.q; rfl; rfl) | (apply Ops.gyB; rfl; rfl) | (apply Ops.gnB; rfl; decide) | (apply Ops.add; rfl; rfl; (constructor <;> omega)) | (apply Ops.sub; rfl; rfl; (constructor <;> omega)) | (apply Ops.rem; rfl; rfl; omega; omega) | (apply Ops.quo; rfl; rfl; (constructor <;> omega); omega) | (apply Ops.ld; rfl; (first | exact m0 | exact m1 | exact m2 | exact m3 | exact m4 | exact m5 | exact m6); rfl) | (apply Ops.st0; rfl; rfl; rfl; rfl; (first | exact u0 | exact u1 | exact u2 | exact u3 | exact u4 | exact u5); focus (simp; done)) | refine Ops.nil ?_ | refine Segs.nil ?_ | (apply Segs.oneS; rfl) | refine Run.seq ?_ | refine Run.reg ?_ | refine Run.block ?_ | refine Run.blk ?_ | refine Run.skip ?_))
  refine Run.ret1 Try.func8 rfl rfl (fun h q => fold_grp (I := DiskI d (DiskS.new n)) (.cons s1 (.cons s1 (.cons s0 .nil))) ⟨kb, none, 0, ⟨fun s hs => ?_, (fun e he => by cases he), ?_, by simp [DiskS.new], by simp [DiskS.new], by simp [DiskS.new]⟩, ?_⟩ h (own_new (s := 65) (T := 76) h q)) ⟨d, rfl, rfl⟩
  · rw [(List.mem_replicate.1 hs).2]; simp
  · simp only [DiskS.new, List.length_replicate]; omega
  · rw [zeros_flat]; simp [DiskS.new]

end Eng
end Go.Proofs.Ytbhlolmglieehaa
