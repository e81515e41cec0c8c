/- The disk's functions: each is what the plain disk says. -/
import Derived.Test.YtbhlolmglieehaaModDisk
import Derived.Test.YtbhlolmglieehaaCode0
set_option linter.unusedSimpArgs false
set_option linter.unusedVariables false
namespace Go.Proofs.Ytbhlolmglieehaa
namespace Eng
attribute [local irreducible] Ops Segs Run Spec

theorem disk_Len (d : Nat) (D : DiskS) (F : Hp) : Spec Try.prog 20 [.pointer (some ⟨d, 0, none⟩)].toArray F [DiskP d D] fun v H => v = .int .i64 D.kept.length ∧ H = [DiskP d D] := by
  refine Spec.enter (n := 8) Try.func20 ok_disk_Disk_Len rfl (by simp) ?_
  unfold ec_disk_Disk_Len
  simp only [argFr, Nat.reduceAdd]
  refine Run.open_ s0 fun G ⟨kb, ca, cc, hok, hG⟩ => ?_
  subst hG
  simp only [List.cons_append, List.nil_append]
  (repeat (first | (apply Ops.q; rfl; rfl) | (apply Ops.gyB; rfl; rfl) | (apply Ops.gnB; rfl; decide) | (apply Ops.add; rfl; rfl; (constructor <;> omega)) | (apply Ops.sub; rfl; rfl; (constructor <;> omega)) | (apply Ops.rem; rfl; rfl; omega; omega) | (apply Ops.quo; rfl; rfl; (constructor <;> omega); omega) | (apply Ops.ld; rfl; (first | exact m0 | exact m1 | exact m2 | exact m3 | exact m4 | exact m5 | exact m6); rfl) | (apply Ops.st0; rfl; rfl; rfl; rfl; (first | exact u0 | exact u1 | exact u2 | exact u3 | exact u4 | exact u5); focus (simp; done)) | refine Ops.nil ?_ | refine Segs.nil ?_ | (apply Segs.oneS; rfl) | refine Run.seq ?_ | refine Run.reg ?_ | refine Run.block ?_ | refine Run.blk ?_ | refine Run.skip ?_))
  exact Run.ret1 Try.func20 rfl rfl (fold_grp (.cons s0 (.cons s0 (.cons s0 .nil))) ⟨kb, ca, cc, hok, rfl⟩) ⟨rfl, rfl⟩

theorem disk_Steps (d : Nat) (D : DiskS) (F : Hp) : Spec Try.prog 16 [.pointer (some ⟨d, 0, none⟩)].toArray F [DiskP d D] fun v H => v = .int .i64 D.steps ∧ H = [DiskP d D] := by
  refine Spec.enter (n := 7) Try.func16 ok_disk_Disk_Steps rfl (by simp) ?_
  unfold ec_disk_Disk_Steps
  simp only [argFr, Nat.reduceAdd]
  refine Run.open_ s0 fun G ⟨kb, ca, cc, hok, hG⟩ => ?_
  subst hG
  simp only [List.cons_append, List.nil_append]
  (repeat (first | (apply Ops.q; rfl; rfl) | (apply Ops.gyB; rfl; rfl) | (apply Ops.gnB; rfl; decide) | (apply Ops.add; rfl; rfl; (constructor <;> omega)) | (apply Ops.sub; rfl; rfl; (constructor <;> omega)) | (apply Ops.rem; rfl; rfl; omega; omega) | (apply Ops.quo; rfl; rfl; (constructor <;> omega); omega) | (apply Ops.ld; rfl; (first | exact m0 | exact m1 | exact m2 | exact m3 | exact m4 | exact m5 | exact m6); rfl) | (apply Ops.st0; rfl; rfl; rfl; rfl; (first | exact u0 | exact u1 | exact u2 | exact u3 | exact u4 | exact u5); focus (simp; done)) | refine Ops.nil ?_ | refine Segs.nil ?_ | (apply Segs.oneS; rfl) | refine Run.seq ?_ | refine Run.reg ?_ | refine Run.block ?_ | refine Run.blk ?_ | refine Run.skip ?_))
  exact Run.ret1 Try.func16 rfl rfl (fold_grp (.cons s0 (.cons s0 (.cons s0 .nil))) ⟨kb, ca, cc, hok, rfl⟩) ⟨rfl, rfl⟩

theorem disk_Plan (d : Nat) (D : DiskS) (n : Int) (k : Nat) (hk : k < 2 ^ 64) (hn : -9223372036854775808 ≤ n ∧ n < 9223372036854775808) (F : Hp) : Spec Try.prog 17 [.pointer (some ⟨d, 0, none⟩), .int .i64 n, .int .u64 k].toArray F [DiskP d D] fun v H => v = .tuple [].toArray ∧ H = [DiskP d (D.plan n k)] := by
  refine Spec.enter (n := 14) Try.func17 ok_disk_Disk_Plan rfl (by simp) ?_
  unfold ec_disk_Disk_Plan
  simp only [argFr, Nat.reduceAdd]
  refine Run.open_ s0 fun G ⟨kb, ca, cc, hok, hG⟩ => ?_
  subst hG
  simp only [List.cons_append, List.nil_append]
  (repeat (first | (apply Ops.q; rfl; rfl) | (apply Ops.gyB; rfl; rfl) | (apply Ops.gnB; rfl; decide) | (apply Ops.add; rfl; rfl; (constructor <;> omega)) | (apply Ops.sub; rfl; rfl; (constructor <;> omega)) | (apply Ops.rem; rfl; rfl; omega; omega) | (apply Ops.quo; rfl; rfl; (constructor <;> omega); omega) | (apply Ops.ld; rfl; (first | exact m0 | exact m1 | exact m2 | exact m3 | exact m4 | exact m5 | exact m6); rfl) | (apply Ops.st0; rfl; rfl; rfl; rfl; (first | exact u0 | exact u1 | exact u2 | exact u3 | exact u4 | exact u5); focus (simp; done)) | refine Ops.nil ?_ | refine Segs.nil ?_ | (apply Segs.oneS; rfl) | refine Run.seq ?_ | refine Run.reg ?_ | refine Run.block ?_ | refine Run.blk ?_ | refine Run.skip ?_))
  refine Run.done0 Try.func17 rfl (fold_grp (I := DiskI d (D.plan n k)) (.cons s0 (.cons s0 (.cons s0 .nil))) ⟨kb, ca, cc, ⟨hok.kept, hok.cache, hok.size, hk, hok.few, hn⟩, rfl⟩) ⟨rfl, rfl⟩

theorem disk_On (d : Nat) (D : DiskS) (F : Hp) : Spec Try.prog 19 [.pointer (some ⟨d, 0, none⟩)].toArray F [DiskP d D] fun v H => v = .tuple [].toArray ∧ H = [DiskP d { D with down := false }] := by
  refine Spec.enter (n := 5) Try.func19 ok_disk_Disk_On rfl (by simp) ?_
  unfold ec_disk_Disk_On
  simp only [argFr, Nat.reduceAdd]
  refine Run.open_ s0 fun G ⟨kb, ca, cc, hok, hG⟩ => ?_
  subst hG
  simp only [List.cons_append, List.nil_append]
  (repeat (first | (apply Ops.q; rfl; rfl) | (apply Ops.gyB; rfl; rfl) | (apply Ops.gnB; rfl; decide) | (apply Ops.add; rfl; rfl; (constructor <;> omega)) | (apply Ops.sub; rfl; rfl; (constructor <;> omega)) | (apply Ops.rem; rfl; rfl; omega; omega) | (apply Ops.quo; rfl; rfl; (constructor <;> omega); omega) | (apply Ops.ld; rfl; (first | exact m0 | exact m1 | exact m2 | exact m3 | exact m4 | exact m5 | exact m6); rfl) | (apply Ops.st0; rfl; rfl; rfl; rfl; (first | exact u0 | exact u1 | exact u2 | exact u3 | exact u4 | exact u5); focus (simp; done)) | refine Ops.nil ?_ | refine Segs.nil ?_ | (apply Segs.oneS; rfl) | refine Run.seq ?_ | refine Run.reg ?_ | refine Run.block ?_ | refine Run.blk ?_ | refine Run.skip ?_))
  refine Run.done0 Try.func19 rfl (fold_grp (I := DiskI d { D with down := false }) (.cons s0 (.cons s0 (.cons s0 .nil))) ⟨kb, ca, cc, ⟨hok.kept, hok.cache, hok.size, hok.keeps, hok.few, hok.fate⟩, rfl⟩) ⟨rfl, rfl⟩

end Eng
end Go.Proofs.Ytbhlolmglieehaa
