/- The disk: flushes. -/
import Derived.Test.YtbhlolmglieehaaDisk3
set_option linter.unusedSimpArgs false
set_option linter.unusedVariables false
namespace Go.Proofs.Ytbhlolmglieehaa
namespace Eng
attribute [local irreducible] Ops Segs Run Spec

theorem disk_Flush (d : Nat) (D : DiskS) (F : Hp) :
    Spec Try.prog 31 [.pointer (some ⟨d, 0, none⟩)].toArray F [DiskP d D] fun v H => v = .int .i64 D.flush.1 ∧ H = [DiskP d D.flush.2] := by
  refine Spec.enter (n := 34) Try.func31 ok_disk_Disk_Flush rfl (by simp) ?_
  unfold ec_disk_Disk_Flush
  simp only [argFr, Nat.reduceAdd]
  refine Run.open_ s0 fun G ⟨kb, ca, cc, hok, hG⟩ => ?_
  subst hG
  simp only [List.cons_append, List.nil_append]
  (repeat (first | (apply Ops.q; rfl; rfl) | (apply Ops.gyB; rfl; rfl) | (apply Ops.gnB; rfl; decide) | (apply Ops.add; rfl; rfl; (constructor <;> omega)) | (apply Ops.sub; rfl; rfl; (constructor <;> omega)) | (apply Ops.rem; rfl; rfl; omega; omega) | (apply Ops.quo; rfl; rfl; (constructor <;> omega); omega) | (apply Ops.ld; rfl; (first | exact m0 | exact m1 | exact m2 | exact m3 | exact m4 | exact m5 | exact m6); rfl) | (apply Ops.st0; rfl; rfl; rfl; rfl; (first | exact u0 | exact u1 | exact u2 | exact u3 | exact u4 | exact u5); focus (simp; done)) | refine Ops.nil ?_ | refine Segs.nil ?_ | (apply Segs.oneS; rfl) | refine Run.seq ?_ | refine Run.reg ?_ | refine Run.block ?_ | refine Run.blk ?_ | refine Run.skip ?_))
  have hfold : ∀ h, seps [.pt d (.cells [.slice (some ⟨kb, 0, none⟩) D.kept.length D.kept.length, .slice ca D.cache.length cc, .bool D.down, .int .i64 D.fate, .int .u64 D.keeps, .int .i64 D.steps].toArray 53 (0, 0)),
      .pt kb (.cells (D.kept.flatMap bvs).toArray 57 (0, 0)), OwnS ca D.cache.length cc 65 76 (D.cache.flatMap wv)] h → seps [DiskP d D] h :=
    fun h q => fold_grp (.cons s0 (.cons s0 (.cons s0 .nil))) ⟨kb, ca, cc, hok, rfl⟩ h q
  unfold DiskS.flush
  by_cases hd : D.down = true
  · rw [if_pos hd]
    refine Run.condT (by rw [← hd]; rfl) ?_
    (repeat (first | (apply Ops.q; rfl; rfl) | (apply Ops.gyB; rfl; rfl) | (apply Ops.gnB; rfl; decide) | (apply Ops.add; rfl; rfl; (constructor <;> omega)) | (apply Ops.sub; rfl; rfl; (constructor <;> omega)) | (apply Ops.rem; rfl; rfl; omega; omega) | (apply Ops.quo; rfl; rfl; (constructor <;> omega); omega) | (apply Ops.ld; rfl; (first | exact m0 | exact m1 | exact m2 | exact m3 | exact m4 | exact m5 | exact m6); rfl) | (apply Ops.st0; rfl; rfl; rfl; rfl; (first | exact u0 | exact u1 | exact u2 | exact u3 | exact u4 | exact u5); focus (simp; done)) | refine Ops.nil ?_ | refine Segs.nil ?_ | (apply Segs.oneS; rfl) | refine Run.seq ?_ | refine Run.reg ?_ | refine Run.block ?_ | refine Run.blk ?_ | refine Run.skip ?_))
    exact Run.ret1 Try.func31 rfl rfl hfold ⟨rfl, rfl⟩
  rw [if_neg hd]
  refine Run.condF (by have : D.down = false := by simpa using hd
                       rw [← this]; rfl) ?_
  (repeat (first | (apply Ops.q; rfl; rfl) | (apply Ops.gyB; rfl; rfl) | (apply Ops.gnB; rfl; decide) | (apply Ops.add; rfl; rfl; (constructor <;> omega)) | (apply Ops.sub; rfl; rfl; (constructor <;> omega)) | (apply Ops.rem; rfl; rfl; omega; omega) | (apply Ops.quo; rfl; rfl; (constructor <;> omega); omega) | (apply Ops.ld; rfl; (first | exact m0 | exact m1 | exact m2 | exact m3 | exact m4 | exact m5 | exact m6); rfl) | (apply Ops.st0; rfl; rfl; rfl; rfl; (first | exact u0 | exact u1 | exact u2 | exact u3 | exact u4 | exact u5); focus (simp; done)) | refine Ops.nil ?_ | refine Segs.nil ?_ | (apply Segs.oneS; rfl) | refine Run.seq ?_ | refine Run.reg ?_ | refine Run.block ?_ | refine Run.blk ?_ | refine Run.skip ?_))
  refine Ops.callE1 [DiskP d D] [] rfl hfold (fun F' e kn => disk_step d D F') ?_
  rintro v G ⟨rfl, rfl⟩
  simp only [List.cons_append, List.nil_append]
  (repeat (first | (apply Ops.q; rfl; rfl) | (apply Ops.gyB; rfl; rfl) | (apply Ops.gnB; rfl; decide) | (apply Ops.add; rfl; rfl; (constructor <;> omega)) | (apply Ops.sub; rfl; rfl; (constructor <;> omega)) | (apply Ops.rem; rfl; rfl; omega; omega) | (apply Ops.quo; rfl; rfl; (constructor <;> omega); omega) | (apply Ops.ld; rfl; (first | exact m0 | exact m1 | exact m2 | exact m3 | exact m4 | exact m5 | exact m6); rfl) | (apply Ops.st0; rfl; rfl; rfl; rfl; (first | exact u0 | exact u1 | exact u2 | exact u3 | exact u4 | exact u5); focus (simp; done)) | refine Ops.nil ?_ | refine Segs.nil ?_ | (apply Segs.oneS; rfl) | refine Run.seq ?_ | refine Run.reg ?_ | refine Run.block ?_ | refine Run.blk ?_ | refine Run.skip ?_))
  by_cases hst : D.step.1 = true
  · rw [hst]
    refine Run.condF rfl ?_
    simp only [if_true]
    clear hfold hok hd
    generalize D.step.2 = D at *
    refine Run.open_ s0 fun G ⟨kb, ca, cc, hok, hG⟩ => ?_
    subst hG
    simp only [List.cons_append, List.nil_append]
    have hfew := hok.few
    (repeat (first | (apply Ops.q; rfl; rfl) | (apply Ops.gyB; rfl; rfl) | (apply Ops.gnB; rfl; decide) | (apply Ops.add; rfl; rfl; (constructor <;> omega)) | (apply Ops.sub; rfl; rfl; (constructor <;> omega)) | (apply Ops.rem; rfl; rfl; omega; omega) | (apply Ops.quo; rfl; rfl; (constructor <;> omega); omega) | (apply Ops.ld; rfl; (first | exact m0 | exact m1 | exact m2 | exact m3 | exact m4 | exact m5 | exact m6); rfl) | (apply Ops.st0; rfl; rfl; rfl; rfl; (first | exact u0 | exact u1 | exact u2 | exact u3 | exact u4 | exact u5); focus (simp; done)) | refine Ops.nil ?_ | refine Segs.nil ?_ | (apply Segs.oneS; rfl) | refine Run.seq ?_ | refine Run.reg ?_ | refine Run.block ?_ | refine Run.blk ?_ | refine Run.skip ?_))
    refine Run.loopI (ι := Nat × List Bytes) (fun x => D.cache.length - x.1) (fun x => x.1 ≤ D.cache.length ∧ x.2.length = D.kept.length ∧ (∀ s ∈ x.2, s.length = 64) ∧ DiskS.keepAll (D.cache.drop x.1) x.2 = DiskS.keepAll D.cache D.kept)
      (fun x => [(17, .int .i64 x.1), (16, .int .i64 D.cache.length), (15, .slice ca D.cache.length cc), (0, .pointer (some ⟨d, 0, none⟩))])
      (fun x => [.pt d (.cells [.slice (some ⟨kb, 0, none⟩) D.kept.length D.kept.length, .slice ca D.cache.length cc, .bool D.down, .int .i64 D.fate, .int .u64 D.keeps, .int .i64 D.steps].toArray 53 (0, 0)),
        .pt kb (.cells (x.2.flatMap bvs).toArray 57 (0, 0)), OwnS ca D.cache.length cc 65 76 (D.cache.flatMap wv)])
      (0, D.kept) ⟨Nat.zero_le _, rfl, hok.kept, rfl⟩ (.cons rfl (.cons rfl (.cons rfl (.cons rfl .nil)))) (fun _ h => h) ?_
    rintro ⟨i, kept⟩ ⟨hi, hlen, h64, hks⟩ ih
    dsimp only at hi hlen h64 hks ih ⊢
    unfold ec_disk_Disk_Flush_L0
    (repeat (first | (apply Ops.q; rfl; rfl) | (apply Ops.gyB; rfl; rfl) | (apply Ops.gnB; rfl; decide) | (apply Ops.add; rfl; rfl; (constructor <;> omega)) | (apply Ops.sub; rfl; rfl; (constructor <;> omega)) | (apply Ops.rem; rfl; rfl; omega; omega) | (apply Ops.quo; rfl; rfl; (constructor <;> omega); omega) | (apply Ops.ld; rfl; (first | exact m0 | exact m1 | exact m2 | exact m3 | exact m4 | exact m5 | exact m6); rfl) | (apply Ops.st0; rfl; rfl; rfl; rfl; (first | exact u0 | exact u1 | exact u2 | exact u3 | exact u4 | exact u5); focus (simp; done)) | refine Ops.nil ?_ | refine Segs.nil ?_ | (apply Segs.oneS; rfl) | refine Run.seq ?_ | refine Run.reg ?_ | refine Run.block ?_ | refine Run.blk ?_ | refine Run.skip ?_))
    refine Run.condD rfl (fun hlt => ?_) (fun hge => ?_)
    · have hlt' : i < D.cache.length := by omega
      refine Run.open_ s2 fun G ⟨hxs, hG⟩ => ?_
      rcases hG with ⟨_, hn, _, _⟩ | ⟨cb, spare, hca, hnc, hcap, hG⟩
      · omega
      subst hca; subst hG
      simp only [List.cons_append, List.nil_append]
      have hel : D.cache[i]? = some D.cache[i] := List.getElem?_eq_getElem hlt'
      have hwl : ∀ e ∈ D.cache, (wv e).length = 65 := fun e he => wv_len (hok.cache e he).2
      have hget := flat_get D.cache spare i _ hwl hel
      obtain ⟨hat, hs64⟩ := hok.cache _ (List.getElem_mem hlt')
      have hdrop : D.cache.drop i = D.cache[i] :: D.cache.drop (i + 1) := List.drop_eq_getElem_cons hlt'
      generalize D.cache[i] = e at *
      obtain ⟨at_, s⟩ := e
      dsimp only at hat hs64
      rw [hdrop] at hks
      simp only [DiskS.keepAll] at hks
      (repeat (first | (apply Ops.q; rfl; rfl) | (apply Ops.gyB; rfl; rfl) | (apply Ops.gnB; rfl; decide) | (apply Ops.add; rfl; rfl; (constructor <;> omega)) | (apply Ops.sub; rfl; rfl; (constructor <;> omega)) | (apply Ops.rem; rfl; rfl; omega; omega) | (apply Ops.quo; rfl; rfl; (constructor <;> omega); omega) | (apply Ops.ld; rfl; (first | exact m0 | exact m1 | exact m2 | exact m3 | exact m4 | exact m5 | exact m6); rfl) | (apply Ops.st0; rfl; rfl; rfl; rfl; (first | exact u0 | exact u1 | exact u2 | exact u3 | exact u4 | exact u5); focus (simp; done)) | refine Ops.nil ?_ | refine Segs.nil ?_ | (apply Segs.oneS; rfl) | refine Run.seq ?_ | refine Run.reg ?_ | refine Run.block ?_ | refine Run.blk ?_ | refine Run.skip ?_))
      refine Ops.ixS rfl rfl ⟨by omega, by omega⟩ ?_
      refine Ops.ldn rfl m0 (by rw [List.length_append, hxs] at *; omega) ?_
      simp only [Nat.zero_add, Int.toNat_natCast, hget]
      refine Ops.alloc fun b5 => ?_
      (repeat (first | (apply Ops.q; rfl; rfl) | (apply Ops.gyB; rfl; rfl) | (apply Ops.gnB; rfl; decide) | (apply Ops.add; rfl; rfl; (constructor <;> omega)) | (apply Ops.sub; rfl; rfl; (constructor <;> omega)) | (apply Ops.rem; rfl; rfl; omega; omega) | (apply Ops.quo; rfl; rfl; (constructor <;> omega); omega) | (apply Ops.ld; rfl; (first | exact m0 | exact m1 | exact m2 | exact m3 | exact m4 | exact m5 | exact m6); rfl) | (apply Ops.st0; rfl; rfl; rfl; rfl; (first | exact u0 | exact u1 | exact u2 | exact u3 | exact u4 | exact u5); focus (simp; done)) | refine Ops.nil ?_ | refine Segs.nil ?_ | (apply Segs.oneS; rfl) | refine Run.seq ?_ | refine Run.reg ?_ | refine Run.block ?_ | refine Run.blk ?_ | refine Run.skip ?_))
      refine Ops.stn0 (vs := wv (at_, s)) rfl rfl rfl (wv_len hs64) (wv_one _) u0 (by simp [zl65_4]) (by simp [wv]) ?_
      have hfull : List.take 0 zl65_4 ++ wv (at_, s) ++ List.drop (0 + 65) zl65_4 = wv (at_, s) := by simp [zl65_4]
      simp only [hfull]
      (repeat (first | (apply Ops.q; rfl; rfl) | (apply Ops.gyB; rfl; rfl) | (apply Ops.gnB; rfl; decide) | (apply Ops.add; rfl; rfl; (constructor <;> omega)) | (apply Ops.sub; rfl; rfl; (constructor <;> omega)) | (apply Ops.rem; rfl; rfl; omega; omega) | (apply Ops.quo; rfl; rfl; (constructor <;> omega); omega) | (apply Ops.ld; rfl; (first | exact m0 | exact m1 | exact m2 | exact m3 | exact m4 | exact m5 | exact m6); rfl) | (apply Ops.st0; rfl; rfl; rfl; rfl; (first | exact u0 | exact u1 | exact u2 | exact u3 | exact u4 | exact u5); focus (simp; done)) | refine Ops.nil ?_ | refine Segs.nil ?_ | (apply Segs.oneS; rfl) | refine Run.seq ?_ | refine Run.reg ?_ | refine Run.block ?_ | refine Run.blk ?_ | refine Run.skip ?_))
      refine Segs.lend [_, _] (.cons s0 (.cons s1 .nil)) fun F1 x1 k1 => ?_
      (repeat (first | (apply Ops.q; rfl; rfl) | (apply Ops.gyB; rfl; rfl) | (apply Ops.gnB; rfl; decide) | (apply Ops.add; rfl; rfl; (constructor <;> omega)) | (apply Ops.sub; rfl; rfl; (constructor <;> omega)) | (apply Ops.rem; rfl; rfl; omega; omega) | (apply Ops.quo; rfl; rfl; (constructor <;> omega); omega) | (apply Ops.ld; rfl; (first | exact m0 | exact m1 | exact m2 | exact m3 | exact m4 | exact m5 | exact m6); rfl) | (apply Ops.st0; rfl; rfl; rfl; rfl; (first | exact u0 | exact u1 | exact u2 | exact u3 | exact u4 | exact u5); focus (simp; done)) | refine Ops.nil ?_ | refine Segs.nil ?_ | (apply Segs.oneS; rfl) | refine Run.seq ?_ | refine Run.reg ?_ | refine Run.block ?_ | refine Run.blk ?_ | refine Run.skip ?_))
      refine Ops.ldF rfl (k1 _ _ m1) rfl ?_
      refine Ops.ldF rfl (k1 _ _ m0) rfl ?_
      refine Ops.ldnF rfl (k1 _ _ m0) (by simp [wv, bvs_len, hs64]) ?_
      simp only [List.cons_append, List.nil_append, wv, List.drop_succ_cons, List.drop_zero, Nat.zero_add, List.take_of_length_le (show (bvs s).length ≤ 64 by rw [bvs_len, hs64]; exact Nat.le_refl _)]
      (repeat (first | (apply Ops.q; rfl; rfl) | (apply Ops.gyB; rfl; rfl) | (apply Ops.gnB; rfl; decide) | (apply Ops.add; rfl; rfl; (constructor <;> omega)) | (apply Ops.sub; rfl; rfl; (constructor <;> omega)) | (apply Ops.rem; rfl; rfl; omega; omega) | (apply Ops.quo; rfl; rfl; (constructor <;> omega); omega) | (apply Ops.ld; rfl; (first | exact m0 | exact m1 | exact m2 | exact m3 | exact m4 | exact m5 | exact m6); rfl) | (apply Ops.st0; rfl; rfl; rfl; rfl; (first | exact u0 | exact u1 | exact u2 | exact u3 | exact u4 | exact u5); focus (simp; done)) | refine Ops.nil ?_ | refine Segs.nil ?_ | (apply Segs.oneS; rfl) | refine Run.seq ?_ | refine Run.reg ?_ | refine Run.block ?_ | refine Run.blk ?_ | refine Run.skip ?_))
      refine Ops.ixS rfl rfl ⟨by omega, by omega⟩ ?_
      have hkl : (kept.flatMap bvs).length = kept.length * 64 := flat_len kept (fun s hs => by rw [bvs_len, h64 s hs])
      have hat64 : at_ * 64 + 64 ≤ kept.length * 64 := by have := Nat.mul_le_mul_right 64 (show at_ + 1 ≤ kept.length by omega); omega
      refine Ops.stn0 (vs := bvs s) rfl rfl rfl (by rw [bvs_len, hs64]) (bvs_one s) u3 (by simp only [Int.toNat_natCast]; omega) (by intro h; have := congrArg List.length h; rw [bvs_len, hs64] at this; cases this) ?_
      simp only [Nat.zero_add, Int.toNat_natCast]
      rw [flat_set kept at_ s (fun s hs => by rw [bvs_len, h64 s hs]) (by rw [bvs_len, hs64]) (by omega)]
      (repeat (first | (apply Ops.q; rfl; rfl) | (apply Ops.gyB; rfl; rfl) | (apply Ops.gnB; rfl; decide) | (apply Ops.add; rfl; rfl; (constructor <;> omega)) | (apply Ops.sub; rfl; rfl; (constructor <;> omega)) | (apply Ops.rem; rfl; rfl; omega; omega) | (apply Ops.quo; rfl; rfl; (constructor <;> omega); omega) | (apply Ops.ld; rfl; (first | exact m0 | exact m1 | exact m2 | exact m3 | exact m4 | exact m5 | exact m6); rfl) | (apply Ops.st0; rfl; rfl; rfl; rfl; (first | exact u0 | exact u1 | exact u2 | exact u3 | exact u4 | exact u5); focus (simp; done)) | refine Ops.nil ?_ | refine Segs.nil ?_ | (apply Segs.oneS; rfl) | refine Run.seq ?_ | refine Run.reg ?_ | refine Run.block ?_ | refine Run.blk ?_ | refine Run.skip ?_))
      refine Run.lp (Run.again (ih (i + 1, kept.set at_ s) (by dsimp only; omega) ⟨by dsimp only; omega, by simp [hlen], DiskS.set_all h64 hs64, hks⟩) ?_ ?_)
      · exact .cons rfl (.cons rfl (.cons rfl (.cons rfl .nil)))
      · exact fun h q => take_sub (.cons s2 (.cons s2 (.cons s0 .nil))) h (fold_grp (I := OwnI _ _ _ _ _ _) (.cons s2 .nil) ⟨hxs, .inr ⟨cb, spare, rfl, hnc, hcap, rfl⟩⟩ h q)
    · have : i = D.cache.length := by omega
      subst this
      rw [List.drop_length] at hks
      simp only [DiskS.keepAll] at hks
      subst hks
      (repeat (first | (apply Ops.q; rfl; rfl) | (apply Ops.gyB; rfl; rfl) | (apply Ops.gnB; rfl; decide) | (apply Ops.add; rfl; rfl; (constructor <;> omega)) | (apply Ops.sub; rfl; rfl; (constructor <;> omega)) | (apply Ops.rem; rfl; rfl; omega; omega) | (apply Ops.quo; rfl; rfl; (constructor <;> omega); omega) | (apply Ops.ld; rfl; (first | exact m0 | exact m1 | exact m2 | exact m3 | exact m4 | exact m5 | exact m6); rfl) | (apply Ops.st0; rfl; rfl; rfl; rfl; (first | exact u0 | exact u1 | exact u2 | exact u3 | exact u4 | exact u5); focus (simp; done)) | refine Ops.nil ?_ | refine Segs.nil ?_ | (apply Segs.oneS; rfl) | refine Run.seq ?_ | refine Run.reg ?_ | refine Run.block ?_ | refine Run.blk ?_ | refine Run.skip ?_))
      refine Run.exit rfl ?_
      (repeat (first | (apply Ops.q; rfl; rfl) | (apply Ops.gyB; rfl; rfl) | (apply Ops.gnB; rfl; decide) | (apply Ops.add; rfl; rfl; (constructor <;> omega)) | (apply Ops.sub; rfl; rfl; (constructor <;> omega)) | (apply Ops.rem; rfl; rfl; omega; omega) | (apply Ops.quo; rfl; rfl; (constructor <;> omega); omega) | (apply Ops.ld; rfl; (first | exact m0 | exact m1 | exact m2 | exact m3 | exact m4 | exact m5 | exact m6); rfl) | (apply Ops.st0; rfl; rfl; rfl; rfl; (first | exact u0 | exact u1 | exact u2 | exact u3 | exact u4 | exact u5); focus (simp; done)) | refine Ops.nil ?_ | refine Segs.nil ?_ | (apply Segs.oneS; rfl) | refine Run.seq ?_ | refine Run.reg ?_ | refine Run.block ?_ | refine Run.blk ?_ | refine Run.skip ?_))
      refine Run.ret1 Try.func31 rfl rfl (fun h q => take_sub (.cons s0 .nil) h (fold_grp (I := DiskI d { D with kept := DiskS.keepAll D.cache D.kept, cache := [] }) (.cons s1 (.cons s1 (.cons s0 .nil))) ⟨kb, none, 0, ⟨DiskS.keepAll_all _ _ (fun e he => (hok.cache e he).2) hok.kept, (fun e he => by cases he), (by simp only; rw [DiskS.keepAll_len]; exact hok.size), hok.keeps, by simp, hok.fate⟩, ?_⟩ h (own_new (s := 65) (T := 76) h q))) ⟨rfl, rfl⟩
      simp only [DiskS.keepAll_len]; rfl
  · have hst : D.step.1 = false := by simpa using hst
    rw [hst]
    refine Run.condT rfl ?_
    (repeat (first | (apply Ops.q; rfl; rfl) | (apply Ops.gyB; rfl; rfl) | (apply Ops.gnB; rfl; decide) | (apply Ops.add; rfl; rfl; (constructor <;> omega)) | (apply Ops.sub; rfl; rfl; (constructor <;> omega)) | (apply Ops.rem; rfl; rfl; omega; omega) | (apply Ops.quo; rfl; rfl; (constructor <;> omega); omega) | (apply Ops.ld; rfl; (first | exact m0 | exact m1 | exact m2 | exact m3 | exact m4 | exact m5 | exact m6); rfl) | (apply Ops.st0; rfl; rfl; rfl; rfl; (first | exact u0 | exact u1 | exact u2 | exact u3 | exact u4 | exact u5); focus (simp; done)) | refine Ops.nil ?_ | refine Segs.nil ?_ | (apply Segs.oneS; rfl) | refine Run.seq ?_ | refine Run.reg ?_ | refine Run.block ?_ | refine Run.blk ?_ | refine Run.skip ?_))
    exact Run.ret1 Try.func31 rfl rfl (fun h q => q) ⟨by simp, rfl⟩
end Eng
end Go.Proofs.Ytbhlolmglieehaa
