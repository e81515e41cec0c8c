/- The log: heads that are good; sectors that are written. -/
import Derived.Test.YtbhlolmglieehaaLog1
set_option linter.unusedSimpArgs false
set_option linter.unusedVariables false
namespace Go.Proofs.Ytbhlolmglieehaa

theorem Rd.num_range {most : Int} (h0 : 0 ≤ most) (R : Rd) : 0 ≤ (R.num most).1 ∧ (R.num most).1 ≤ most := by
  obtain ⟨b, bad⟩ := R
  unfold Rd.num
  split
  · split
    · exact ⟨Int.le_refl _, h0⟩
    · exact ⟨by simp only; omega, by simp only; omega⟩
  · exact ⟨Int.le_refl _, h0⟩
theorem Rd.num_len {most : Int} (R : Rd) : (R.num most).2.b.length ≤ R.b.length := by
  obtain ⟨b, bad⟩ := R
  unfold Rd.num
  split
  · rename_i h
    cases h
    split
    · exact Nat.zero_le _
    · simp only [List.length_cons]; omega
  · exact Nat.zero_le _

/-- a head's epoch -/
def goodOf (s : Bytes) : Int × Bool :=
  if s = List.replicate 64 0 then (0, false) else
    (((⟨(s.drop 1).take 8, false⟩ : Rd).num 2147483648).1, decide (s[0]? = some 1) && decide ((((⟨(s.drop 1).take 8, false⟩ : Rd).num 2147483648).2.num 4294967295).1 = crcOf (s.take 5)))

theorem eq_bytes (s t : Bytes) : ((s.map fun b => (b.toNat : Int)) == (t.map fun b => (b.toNat : Int))) = decide (s = t) := by
  by_cases h : s = t
  · subst h; simp
  · have : ¬ (s.map fun b => (b.toNat : Int)) = (t.map fun b => (b.toNat : Int)) := by
      intro e
      refine h (List.map_inj_right (f := fun b : UInt8 => (b.toNat : Int)) ?_ |>.1 e)
      intro x y e
      exact UInt8.toNat_inj.1 (by omega)
    simp [h, this]

theorem bvs_ints (s : Bytes) : bvs s = (s.map fun b => (b.toNat : Int)).map (Value.int .u8) := by
  simp [bvs, bv, Function.comp_def]

namespace Eng
attribute [local irreducible] Ops Segs Run Spec

theorem log_good (l : Value) (s : Bytes) (hs : s.length = 64) (F : Hp) :
    Spec Try.prog 22 [l, .agg (bvs s).toArray].toArray F [] fun v H => v = .tuple [.int .i64 (goodOf s).1, .bool (goodOf s).2].toArray ∧ H = [] := by
  refine Spec.enter (n := 30) Try.func22 ok_log_Log_good rfl (by simp) ?_
  unfold ec_log_Log_good
  simp only [argFr, Nat.reduceAdd]
  refine Run.seq (Run.reg (Segs.oneS rfl (Ops.box rfl rfl fun b3 => ?_)))
  simp only [vcells]
  (repeat (first | (apply Ops.q; rfl; rfl) | (apply Ops.gyB; rfl; rfl) | (apply Ops.gnB; rfl; decide) | (apply Ops.add; rfl; rfl; (constructor <;> omega)) | (apply Ops.sub; rfl; rfl; (constructor <;> omega)) | (apply Ops.rem; rfl; rfl; omega; omega) | (apply Ops.quo; rfl; rfl; (constructor <;> omega); omega) | (apply Ops.ld; rfl; (first | exact m0 | exact m1 | exact m2 | exact m3 | exact m4 | exact m5 | exact m6); rfl) | (apply Ops.st0; rfl; rfl; rfl; rfl; (first | exact u0 | exact u1 | exact u2 | exact u3 | exact u4 | exact u5); focus (simp; done)) | refine Ops.nil ?_ | refine Segs.nil ?_ | (apply Segs.oneS; rfl) | refine Run.seq ?_ | refine Run.reg ?_ | refine Run.block ?_ | refine Run.blk ?_ | refine Run.skip ?_))
  refine Ops.ldn rfl m0 (by rw [bvs_len, hs]; exact Nat.le_refl 64) ?_
  refine Ops.bld zl64_intu80 rfl rfl ?_
  rw [List.drop_zero, List.take_of_length_le (show (bvs s).length ≤ 64 by rw [bvs_len, hs]; exact Nat.le_refl 64)]
  refine Ops.eqa (s.map fun b => (b.toNat : Int)) ((List.replicate 64 (0 : UInt8)).map fun b => (b.toNat : Int)) (by rw [bvs_ints]; rfl) rfl (by simp [hs]) (by simp) ?_
  rw [eq_bytes]
  (repeat (first | (apply Ops.q; rfl; rfl) | (apply Ops.gyB; rfl; rfl) | (apply Ops.gnB; rfl; decide) | (apply Ops.add; rfl; rfl; (constructor <;> omega)) | (apply Ops.sub; rfl; rfl; (constructor <;> omega)) | (apply Ops.rem; rfl; rfl; omega; omega) | (apply Ops.quo; rfl; rfl; (constructor <;> omega); omega) | (apply Ops.ld; rfl; (first | exact m0 | exact m1 | exact m2 | exact m3 | exact m4 | exact m5 | exact m6); rfl) | (apply Ops.st0; rfl; rfl; rfl; rfl; (first | exact u0 | exact u1 | exact u2 | exact u3 | exact u4 | exact u5); focus (simp; done)) | refine Ops.nil ?_ | refine Segs.nil ?_ | (apply Segs.oneS; rfl) | refine Run.seq ?_ | refine Run.reg ?_ | refine Run.block ?_ | refine Run.blk ?_ | refine Run.skip ?_))
  unfold goodOf
  refine Run.condD rfl (fun hz => ?_) (fun hz => ?_)
  · rw [if_pos hz]
    (repeat (first | (apply Ops.q; rfl; rfl) | (apply Ops.gyB; rfl; rfl) | (apply Ops.gnB; rfl; decide) | (apply Ops.add; rfl; rfl; (constructor <;> omega)) | (apply Ops.sub; rfl; rfl; (constructor <;> omega)) | (apply Ops.rem; rfl; rfl; omega; omega) | (apply Ops.quo; rfl; rfl; (constructor <;> omega); omega) | (apply Ops.ld; rfl; (first | exact m0 | exact m1 | exact m2 | exact m3 | exact m4 | exact m5 | exact m6); rfl) | (apply Ops.st0; rfl; rfl; rfl; rfl; (first | exact u0 | exact u1 | exact u2 | exact u3 | exact u4 | exact u5); focus (simp; done)) | refine Ops.nil ?_ | refine Segs.nil ?_ | (apply Segs.oneS; rfl) | refine Run.seq ?_ | refine Run.reg ?_ | refine Run.block ?_ | refine Run.blk ?_ | refine Run.skip ?_))
    exact Run.ret2 Try.func22 rfl rfl rfl (fun h q => take_sub .nil h q) ⟨rfl, rfl⟩
  rw [if_neg hz]
  refine Run.lendD [_] (.cons s0 .nil) fun F1 x1 k1 => ?_
  have hF := k1 _ _ m0
  (repeat (first | (apply Ops.q; rfl; rfl) | (apply Ops.gyB; rfl; rfl) | (apply Ops.gnB; rfl; decide) | (apply Ops.add; rfl; rfl; (constructor <;> omega)) | (apply Ops.sub; rfl; rfl; (constructor <;> omega)) | (apply Ops.rem; rfl; rfl; omega; omega) | (apply Ops.quo; rfl; rfl; (constructor <;> omega); omega) | (apply Ops.ld; rfl; (first | exact m0 | exact m1 | exact m2 | exact m3 | exact m4 | exact m5 | exact m6); rfl) | (apply Ops.st0; rfl; rfl; rfl; rfl; (first | exact u0 | exact u1 | exact u2 | exact u3 | exact u4 | exact u5); focus (simp; done)) | refine Ops.nil ?_ | refine Segs.nil ?_ | (apply Segs.oneS; rfl) | refine Run.seq ?_ | refine Run.reg ?_ | refine Run.block ?_ | refine Run.blk ?_ | refine Run.skip ?_))
  refine Ops.slA (l1 := 1) (h1 := 9) rfl rfl rfl (by omega) (by omega) fun a1 ha1 => ?_
  simp only [Nat.reduceSub, Nat.reduceMul, Nat.reduceAdd] at ha1 ⊢
  have hr1 := rdB_at hF 8 (o := 1) (by omega) (a := a1) (c := 63) (ha1.imp id (by omega))
  refine Ops.call1 rfl .nil (fun F' e _ => rec_Read _ _ F' (hr1.ext e) (by simp; omega)) ?_
  rintro v G ⟨r, rfl, rfl⟩
  simp only [List.cons_append, List.nil_append]
  (repeat (first | (apply Ops.q; rfl; rfl) | (apply Ops.gyB; rfl; rfl) | (apply Ops.gnB; rfl; decide) | (apply Ops.add; rfl; rfl; (constructor <;> omega)) | (apply Ops.sub; rfl; rfl; (constructor <;> omega)) | (apply Ops.rem; rfl; rfl; omega; omega) | (apply Ops.quo; rfl; rfl; (constructor <;> omega); omega) | (apply Ops.ld; rfl; (first | exact m0 | exact m1 | exact m2 | exact m3 | exact m4 | exact m5 | exact m6); rfl) | (apply Ops.st0; rfl; rfl; rfl; rfl; (first | exact u0 | exact u1 | exact u2 | exact u3 | exact u4 | exact u5); focus (simp; done)) | refine Ops.nil ?_ | refine Segs.nil ?_ | (apply Segs.oneS; rfl) | refine Run.seq ?_ | refine Run.reg ?_ | refine Run.block ?_ | refine Run.blk ?_ | refine Run.skip ?_))
  refine Ops.call1 rfl (.cons s0 .nil) (fun F' e _ => rec_Reader_Num r _ _ (by simp; omega) F') ?_
  rintro v G ⟨rfl, rfl⟩
  simp only [List.cons_append, List.nil_append]
  have hl1 := Rd.num_len (most := 2147483648) ⟨(s.drop 1).take 8, false⟩
  (repeat (first | (apply Ops.q; rfl; rfl) | (apply Ops.gyB; rfl; rfl) | (apply Ops.gnB; rfl; decide) | (apply Ops.add; rfl; rfl; (constructor <;> omega)) | (apply Ops.sub; rfl; rfl; (constructor <;> omega)) | (apply Ops.rem; rfl; rfl; omega; omega) | (apply Ops.quo; rfl; rfl; (constructor <;> omega); omega) | (apply Ops.ld; rfl; (first | exact m0 | exact m1 | exact m2 | exact m3 | exact m4 | exact m5 | exact m6); rfl) | (apply Ops.st0; rfl; rfl; rfl; rfl; (first | exact u0 | exact u1 | exact u2 | exact u3 | exact u4 | exact u5); focus (simp; done)) | refine Ops.nil ?_ | refine Segs.nil ?_ | (apply Segs.oneS; rfl) | refine Run.seq ?_ | refine Run.reg ?_ | refine Run.block ?_ | refine Run.blk ?_ | refine Run.skip ?_))
  refine Ops.call1 rfl (.cons s0 .nil) (fun F' e _ => rec_Reader_Num r _ _ (by simp at hl1 ⊢; omega) F') ?_
  rintro v G ⟨rfl, rfl⟩
  simp only [List.cons_append, List.nil_append]
  have hg := Rd.num_range (most := 4294967295) (by omega) ((⟨(s.drop 1).take 8, false⟩ : Rd).num 2147483648).2
  generalize (((⟨(s.drop 1).take 8, false⟩ : Rd).num 2147483648).2.num 4294967295) = r2 at *
  generalize (⟨(s.drop 1).take 8, false⟩ : Rd).num 2147483648 = r1 at *
  (repeat (first | (apply Ops.q; rfl; rfl) | (apply Ops.gyB; rfl; rfl) | (apply Ops.gnB; rfl; decide) | (apply Ops.add; rfl; rfl; (constructor <;> omega)) | (apply Ops.sub; rfl; rfl; (constructor <;> omega)) | (apply Ops.rem; rfl; rfl; omega; omega) | (apply Ops.quo; rfl; rfl; (constructor <;> omega); omega) | (apply Ops.ld; rfl; (first | exact m0 | exact m1 | exact m2 | exact m3 | exact m4 | exact m5 | exact m6); rfl) | (apply Ops.st0; rfl; rfl; rfl; rfl; (first | exact u0 | exact u1 | exact u2 | exact u3 | exact u4 | exact u5); focus (simp; done)) | refine Ops.nil ?_ | refine Segs.nil ?_ | (apply Segs.oneS; rfl) | refine Run.seq ?_ | refine Run.reg ?_ | refine Run.block ?_ | refine Run.blk ?_ | refine Run.skip ?_))
  refine Ops.ixA rfl rfl ⟨by omega, by omega⟩ ?_
  obtain ⟨s0', sr, rfl⟩ : ∃ a r, s = a :: r := by cases s with | nil => simp at hs | cons a r => exact ⟨a, r, rfl⟩
  refine Ops.ldF (v := bv s0') rfl hF rfl ?_
  have hb0 : decide ((s0'.toNat : Int) = 1) = decide ((s0' :: sr)[0]? = some 1) := by
    simp only [List.getElem?_cons_zero, Option.some.injEq]
    congr 1
    refine propext ⟨fun e => UInt8.toNat_inj.1 (by rw [show (1 : UInt8).toNat = 1 from rfl]; omega), fun e => by subst e; rfl⟩
  unfold bv
  (repeat (first | (apply Ops.q; rfl; rfl) | (apply Ops.gyB; rfl; rfl) | (apply Ops.gnB; rfl; decide) | (apply Ops.add; rfl; rfl; (constructor <;> omega)) | (apply Ops.sub; rfl; rfl; (constructor <;> omega)) | (apply Ops.rem; rfl; rfl; omega; omega) | (apply Ops.quo; rfl; rfl; (constructor <;> omega); omega) | (apply Ops.ld; rfl; (first | exact m0 | exact m1 | exact m2 | exact m3 | exact m4 | exact m5 | exact m6); rfl) | (apply Ops.st0; rfl; rfl; rfl; rfl; (first | exact u0 | exact u1 | exact u2 | exact u3 | exact u4 | exact u5); focus (simp; done)) | refine Ops.nil ?_ | refine Segs.nil ?_ | (apply Segs.oneS; rfl) | refine Run.seq ?_ | refine Run.reg ?_ | refine Run.block ?_ | refine Run.blk ?_ | refine Run.skip ?_))
  rw [hb0]
  by_cases h0 : (s0' :: sr)[0]? = some 1
  · simp only [h0, decide_true]
    (repeat (first | (apply Ops.q; rfl; rfl) | (apply Ops.gyB; rfl; rfl) | (apply Ops.gnB; rfl; decide) | (apply Ops.add; rfl; rfl; (constructor <;> omega)) | (apply Ops.sub; rfl; rfl; (constructor <;> omega)) | (apply Ops.rem; rfl; rfl; omega; omega) | (apply Ops.quo; rfl; rfl; (constructor <;> omega); omega) | (apply Ops.ld; rfl; (first | exact m0 | exact m1 | exact m2 | exact m3 | exact m4 | exact m5 | exact m6); rfl) | (apply Ops.st0; rfl; rfl; rfl; rfl; (first | exact u0 | exact u1 | exact u2 | exact u3 | exact u4 | exact u5); focus (simp; done)) | refine Ops.nil ?_ | refine Segs.nil ?_ | (apply Segs.oneS; rfl) | refine Run.seq ?_ | refine Run.reg ?_ | refine Run.block ?_ | refine Run.blk ?_ | refine Run.skip ?_))
    refine Ops.pE (v' := .int .u32 r2.1) rfl (by rw [wrap_u32 (by omega) (by omega)]) ?_
    (repeat (first | (apply Ops.q; rfl; rfl) | (apply Ops.gyB; rfl; rfl) | (apply Ops.gnB; rfl; decide) | (apply Ops.add; rfl; rfl; (constructor <;> omega)) | (apply Ops.sub; rfl; rfl; (constructor <;> omega)) | (apply Ops.rem; rfl; rfl; omega; omega) | (apply Ops.quo; rfl; rfl; (constructor <;> omega); omega) | (apply Ops.ld; rfl; (first | exact m0 | exact m1 | exact m2 | exact m3 | exact m4 | exact m5 | exact m6); rfl) | (apply Ops.st0; rfl; rfl; rfl; rfl; (first | exact u0 | exact u1 | exact u2 | exact u3 | exact u4 | exact u5); focus (simp; done)) | refine Ops.nil ?_ | refine Segs.nil ?_ | (apply Segs.oneS; rfl) | refine Run.seq ?_ | refine Run.reg ?_ | refine Run.block ?_ | refine Run.blk ?_ | refine Run.skip ?_))
    refine Ops.slA (l1 := 0) (h1 := 5) rfl rfl rfl (by omega) (by omega) fun a2 ha2 => ?_
    simp only [Nat.reduceSub, Nat.reduceMul, Nat.reduceAdd] at ha2 ⊢
    have hr2 := rdB_at hF 5 (o := 0) (by omega) (a := a2) (c := 64) (ha2.imp id (by omega))
    (repeat (first | (apply Ops.q; rfl; rfl) | (apply Ops.gyB; rfl; rfl) | (apply Ops.gnB; rfl; decide) | (apply Ops.add; rfl; rfl; (constructor <;> omega)) | (apply Ops.sub; rfl; rfl; (constructor <;> omega)) | (apply Ops.rem; rfl; rfl; omega; omega) | (apply Ops.quo; rfl; rfl; (constructor <;> omega); omega) | (apply Ops.ld; rfl; (first | exact m0 | exact m1 | exact m2 | exact m3 | exact m4 | exact m5 | exact m6); rfl) | (apply Ops.st0; rfl; rfl; rfl; rfl; (first | exact u0 | exact u1 | exact u2 | exact u3 | exact u4 | exact u5); focus (simp; done)) | refine Ops.nil ?_ | refine Segs.nil ?_ | (apply Segs.oneS; rfl) | refine Run.seq ?_ | refine Run.reg ?_ | refine Run.block ?_ | refine Run.blk ?_ | refine Run.skip ?_))
    refine Ops.lit [.slice a2 5 64] rfl rfl fun b => ?_
    (repeat (first | (apply Ops.q; rfl; rfl) | (apply Ops.gyB; rfl; rfl) | (apply Ops.gnB; rfl; decide) | (apply Ops.add; rfl; rfl; (constructor <;> omega)) | (apply Ops.sub; rfl; rfl; (constructor <;> omega)) | (apply Ops.rem; rfl; rfl; omega; omega) | (apply Ops.quo; rfl; rfl; (constructor <;> omega); omega) | (apply Ops.ld; rfl; (first | exact m0 | exact m1 | exact m2 | exact m3 | exact m4 | exact m5 | exact m6); rfl) | (apply Ops.st0; rfl; rfl; rfl; rfl; (first | exact u0 | exact u1 | exact u2 | exact u3 | exact u4 | exact u5); focus (simp; done)) | refine Ops.nil ?_ | refine Segs.nil ?_ | (apply Segs.oneS; rfl) | refine Run.seq ?_ | refine Run.reg ?_ | refine Run.block ?_ | refine Run.blk ?_ | refine Run.skip ?_))
    refine Ops.call1 rfl .nil (fun F' e kn => crc_Of _ [_] F' (rdBB_mk0 (kn _ _ m0) (.cons (hr2.ext e) .nil) rfl) (by simp) (by simp; omega)) ?_
    rintro v G ⟨rfl, rfl⟩
    simp only [List.cons_append, List.nil_append]
    (repeat (first | (apply Ops.q; rfl; rfl) | (apply Ops.gyB; rfl; rfl) | (apply Ops.gnB; rfl; decide) | (apply Ops.add; rfl; rfl; (constructor <;> omega)) | (apply Ops.sub; rfl; rfl; (constructor <;> omega)) | (apply Ops.rem; rfl; rfl; omega; omega) | (apply Ops.quo; rfl; rfl; (constructor <;> omega); omega) | (apply Ops.ld; rfl; (first | exact m0 | exact m1 | exact m2 | exact m3 | exact m4 | exact m5 | exact m6); rfl) | (apply Ops.st0; rfl; rfl; rfl; rfl; (first | exact u0 | exact u1 | exact u2 | exact u3 | exact u4 | exact u5); focus (simp; done)) | refine Ops.nil ?_ | refine Segs.nil ?_ | (apply Segs.oneS; rfl) | refine Run.seq ?_ | refine Run.reg ?_ | refine Run.block ?_ | refine Run.blk ?_ | refine Run.skip ?_))
    refine Run.ret2 Try.func22 rfl rfl rfl (fun h q => take_sub .nil h q) ⟨?_, rfl⟩
    simp [pickV]
    exact decide_eq_decide.2 Iff.rfl
  · simp only [h0, decide_false]
    (repeat (first | (apply Ops.q; rfl; rfl) | (apply Ops.gyB; rfl; rfl) | (apply Ops.gnB; rfl; decide) | (apply Ops.add; rfl; rfl; (constructor <;> omega)) | (apply Ops.sub; rfl; rfl; (constructor <;> omega)) | (apply Ops.rem; rfl; rfl; omega; omega) | (apply Ops.quo; rfl; rfl; (constructor <;> omega); omega) | (apply Ops.ld; rfl; (first | exact m0 | exact m1 | exact m2 | exact m3 | exact m4 | exact m5 | exact m6); rfl) | (apply Ops.st0; rfl; rfl; rfl; rfl; (first | exact u0 | exact u1 | exact u2 | exact u3 | exact u4 | exact u5); focus (simp; done)) | refine Ops.nil ?_ | refine Segs.nil ?_ | (apply Segs.oneS; rfl) | refine Run.seq ?_ | refine Run.reg ?_ | refine Run.block ?_ | refine Run.blk ?_ | refine Run.skip ?_))
    refine Run.ret2 Try.func22 rfl rfl rfl (fun h q => take_sub .nil h q) ⟨?_, rfl⟩
    simp [pickV]
    rfl
end Eng
end Go.Proofs.Ytbhlolmglieehaa
