/- Numbers as bytes: rec's functions. -/
import Derived.Test.YtbhlolmglieehaaModRec
import Derived.Test.YtbhlolmglieehaaCode0
set_option linter.unusedSimpArgs false
set_option linter.unusedVariables false
namespace Go.Proofs.Ytbhlolmglieehaa
namespace Eng
attribute [local irreducible] Ops Segs Run Spec

theorem wrap8 (n : Nat) : IntKind.u8.wrap ((n : Nat) : Int) = ((UInt8.ofNat n).toNat : Int) := by
  unfold IntKind.wrap
  simp only [IntKind.signed, IntKind.bits, Bool.false_and, Bool.false_eq_true, if_false, UInt8.toNat_ofNat']
  omega

theorem rec_number (n : Nat) (hn : n < 4294967296) (F : Hp) : Spec Try.prog 41 [.int .u32 n].toArray F [] fun v H => ∃ b, v = .slice (some ⟨b, 0, none⟩) 4 4 ∧ H = [.pt b (.cells (bvs (le4 n)).toArray 5 (0, 0))] := by
  refine Spec.enter (n := 15) Try.func41 ok_rec_number rfl (by simp) ?_
  unfold ec_rec_number
  simp only [argFr, Nat.reduceAdd]
  (repeat (first | (apply Ops.q; rfl; rfl) | (apply Ops.gyB; rfl; rfl) | (apply Ops.gnB; rfl; decide) | (apply Ops.add; rfl; rfl; (constructor <;> omega)) | (apply Ops.sub; rfl; rfl; (constructor <;> omega)) | (apply Ops.rem; rfl; rfl; omega; omega) | (apply Ops.quo; rfl; rfl; (constructor <;> omega); omega) | (apply Ops.ld; rfl; (first | exact m0 | exact m1 | exact m2 | exact m3 | exact m4 | exact m5 | exact m6); rfl) | (apply Ops.st0; rfl; rfl; rfl; rfl; (first | exact u0 | exact u1 | exact u2 | exact u3 | exact u4 | exact u5); focus (simp; done)) | refine Ops.nil ?_ | refine Segs.nil ?_ | (apply Segs.oneS; rfl) | refine Run.seq ?_ | refine Run.reg ?_ | refine Run.block ?_ | refine Run.blk ?_ | refine Run.skip ?_))
  refine Ops.p rfl ?_
  (repeat (first | (apply Ops.q; rfl; rfl) | (apply Ops.gyB; rfl; rfl) | (apply Ops.gnB; rfl; decide) | (apply Ops.add; rfl; rfl; (constructor <;> omega)) | (apply Ops.sub; rfl; rfl; (constructor <;> omega)) | (apply Ops.rem; rfl; rfl; omega; omega) | (apply Ops.quo; rfl; rfl; (constructor <;> omega); omega) | (apply Ops.ld; rfl; (first | exact m0 | exact m1 | exact m2 | exact m3 | exact m4 | exact m5 | exact m6); rfl) | (apply Ops.st0; rfl; rfl; rfl; rfl; (first | exact u0 | exact u1 | exact u2 | exact u3 | exact u4 | exact u5); focus (simp; done)) | refine Ops.nil ?_ | refine Segs.nil ?_ | (apply Segs.oneS; rfl) | refine Run.seq ?_ | refine Run.reg ?_ | refine Run.block ?_ | refine Run.blk ?_ | refine Run.skip ?_))
  refine Ops.shr (j := 8) rfl rfl rfl (by decide) ?_
  refine Ops.p rfl ?_
  (repeat (first | (apply Ops.q; rfl; rfl) | (apply Ops.gyB; rfl; rfl) | (apply Ops.gnB; rfl; decide) | (apply Ops.add; rfl; rfl; (constructor <;> omega)) | (apply Ops.sub; rfl; rfl; (constructor <;> omega)) | (apply Ops.rem; rfl; rfl; omega; omega) | (apply Ops.quo; rfl; rfl; (constructor <;> omega); omega) | (apply Ops.ld; rfl; (first | exact m0 | exact m1 | exact m2 | exact m3 | exact m4 | exact m5 | exact m6); rfl) | (apply Ops.st0; rfl; rfl; rfl; rfl; (first | exact u0 | exact u1 | exact u2 | exact u3 | exact u4 | exact u5); focus (simp; done)) | refine Ops.nil ?_ | refine Segs.nil ?_ | (apply Segs.oneS; rfl) | refine Run.seq ?_ | refine Run.reg ?_ | refine Run.block ?_ | refine Run.blk ?_ | refine Run.skip ?_))
  refine Ops.shr (j := 16) rfl rfl rfl (by decide) ?_
  refine Ops.p rfl ?_
  (repeat (first | (apply Ops.q; rfl; rfl) | (apply Ops.gyB; rfl; rfl) | (apply Ops.gnB; rfl; decide) | (apply Ops.add; rfl; rfl; (constructor <;> omega)) | (apply Ops.sub; rfl; rfl; (constructor <;> omega)) | (apply Ops.rem; rfl; rfl; omega; omega) | (apply Ops.quo; rfl; rfl; (constructor <;> omega); omega) | (apply Ops.ld; rfl; (first | exact m0 | exact m1 | exact m2 | exact m3 | exact m4 | exact m5 | exact m6); rfl) | (apply Ops.st0; rfl; rfl; rfl; rfl; (first | exact u0 | exact u1 | exact u2 | exact u3 | exact u4 | exact u5); focus (simp; done)) | refine Ops.nil ?_ | refine Segs.nil ?_ | (apply Segs.oneS; rfl) | refine Run.seq ?_ | refine Run.reg ?_ | refine Run.block ?_ | refine Run.blk ?_ | refine Run.skip ?_))
  refine Ops.shr (j := 24) rfl rfl rfl (by decide) ?_
  refine Ops.p rfl ?_
  simp only [wrap8, Nat.shiftRight_eq_div_pow, Nat.reducePow]
  refine Ops.lit (bvs (le4 n)) rfl rfl fun b => ?_
  (repeat (first | (apply Ops.q; rfl; rfl) | (apply Ops.gyB; rfl; rfl) | (apply Ops.gnB; rfl; decide) | (apply Ops.add; rfl; rfl; (constructor <;> omega)) | (apply Ops.sub; rfl; rfl; (constructor <;> omega)) | (apply Ops.rem; rfl; rfl; omega; omega) | (apply Ops.quo; rfl; rfl; (constructor <;> omega); omega) | (apply Ops.ld; rfl; (first | exact m0 | exact m1 | exact m2 | exact m3 | exact m4 | exact m5 | exact m6); rfl) | (apply Ops.st0; rfl; rfl; rfl; rfl; (first | exact u0 | exact u1 | exact u2 | exact u3 | exact u4 | exact u5); focus (simp; done)) | refine Ops.nil ?_ | refine Segs.nil ?_ | (apply Segs.oneS; rfl) | refine Run.seq ?_ | refine Run.reg ?_ | refine Run.block ?_ | refine Run.blk ?_ | refine Run.skip ?_))
  exact Run.ret1 Try.func41 rfl rfl (fun h q => q) ⟨b, rfl, rfl⟩

theorem rec_Num (n : Nat) (hn : n < 4294967296) (F : Hp) : Spec Try.prog 32 [.int .i64 n].toArray F [] fun v H => ∃ b, v = .slice (some ⟨b, 0, none⟩) 4 4 ∧ H = [.pt b (.cells (bvs (le4 n)).toArray 5 (0, 0))] := by
  refine Spec.enter (n := 6) Try.func32 ok_rec_Num rfl (by simp) ?_
  unfold ec_rec_Num
  simp only [argFr, Nat.reduceAdd]
  (repeat (first | (apply Ops.q; rfl; rfl) | (apply Ops.gyB; rfl; rfl) | (apply Ops.gnB; rfl; decide) | (apply Ops.add; rfl; rfl; (constructor <;> omega)) | (apply Ops.sub; rfl; rfl; (constructor <;> omega)) | (apply Ops.rem; rfl; rfl; omega; omega) | (apply Ops.quo; rfl; rfl; (constructor <;> omega); omega) | (apply Ops.ld; rfl; (first | exact m0 | exact m1 | exact m2 | exact m3 | exact m4 | exact m5 | exact m6); rfl) | (apply Ops.st0; rfl; rfl; rfl; rfl; (first | exact u0 | exact u1 | exact u2 | exact u3 | exact u4 | exact u5); focus (simp; done)) | refine Ops.nil ?_ | refine Segs.nil ?_ | (apply Segs.oneS; rfl) | refine Run.seq ?_ | refine Run.reg ?_ | refine Run.block ?_ | refine Run.blk ?_ | refine Run.skip ?_))
  refine Ops.pE (v' := .int .u32 n) rfl (by rw [wrap_u32 (by omega) (by omega)]) ?_
  refine Ops.call1 rfl .nil (fun F' e kn => rec_number n hn F') ?_
  rintro v G ⟨b, rfl, rfl⟩
  (repeat (first | (apply Ops.q; rfl; rfl) | (apply Ops.gyB; rfl; rfl) | (apply Ops.gnB; rfl; decide) | (apply Ops.add; rfl; rfl; (constructor <;> omega)) | (apply Ops.sub; rfl; rfl; (constructor <;> omega)) | (apply Ops.rem; rfl; rfl; omega; omega) | (apply Ops.quo; rfl; rfl; (constructor <;> omega); omega) | (apply Ops.ld; rfl; (first | exact m0 | exact m1 | exact m2 | exact m3 | exact m4 | exact m5 | exact m6); rfl) | (apply Ops.st0; rfl; rfl; rfl; rfl; (first | exact u0 | exact u1 | exact u2 | exact u3 | exact u4 | exact u5); focus (simp; done)) | refine Ops.nil ?_ | refine Segs.nil ?_ | (apply Segs.oneS; rfl) | refine Run.seq ?_ | refine Run.reg ?_ | refine Run.block ?_ | refine Run.blk ?_ | refine Run.skip ?_))
  exact Run.ret1 Try.func32 rfl rfl (fun h q => q) ⟨b, rfl, rfl⟩

theorem rec_Read (v : Value) (bs : Bytes) (F : Hp) (hb : RdB F v bs) (hlen : bs.length ≤ 1099511627776) : Spec Try.prog 35 [v].toArray F [] fun v H => ∃ r, v = .pointer (some ⟨r, 0, none⟩) ∧ H = [RdP r ⟨bs, false⟩] := by
  refine Spec.enter (n := 7) Try.func35 ok_rec_Read rfl (by simp) ?_
  unfold ec_rec_Read
  simp only [argFr, Nat.reduceAdd]
  (repeat (first | (apply Ops.q; rfl; rfl) | (apply Ops.gyB; rfl; rfl) | (apply Ops.gnB; rfl; decide) | (apply Ops.add; rfl; rfl; (constructor <;> omega)) | (apply Ops.sub; rfl; rfl; (constructor <;> omega)) | (apply Ops.rem; rfl; rfl; omega; omega) | (apply Ops.quo; rfl; rfl; (constructor <;> omega); omega) | (apply Ops.ld; rfl; (first | exact m0 | exact m1 | exact m2 | exact m3 | exact m4 | exact m5 | exact m6); rfl) | (apply Ops.st0; rfl; rfl; rfl; rfl; (first | exact u0 | exact u1 | exact u2 | exact u3 | exact u4 | exact u5); focus (simp; done)) | refine Ops.nil ?_ | refine Segs.nil ?_ | (apply Segs.oneS; rfl) | refine Run.seq ?_ | refine Run.reg ?_ | refine Run.block ?_ | refine Run.blk ?_ | refine Run.skip ?_))
  refine Ops.appN (ys := bvs bs) rfl rfl hb.len (fun w h q f => hb.shows w h q f) (bvs_one bs) (by rw [bvs_len]; simp) (by simp) (by omega) fun a c => ?_
  refine Ops.bld [.slice a bs.length c, .bool false] rfl rfl ?_
  refine Ops.box (vs := [.slice a bs.length c, .bool false]) rfl rfl fun r => ?_
  (repeat (first | (apply Ops.q; rfl; rfl) | (apply Ops.gyB; rfl; rfl) | (apply Ops.gnB; rfl; decide) | (apply Ops.add; rfl; rfl; (constructor <;> omega)) | (apply Ops.sub; rfl; rfl; (constructor <;> omega)) | (apply Ops.rem; rfl; rfl; omega; omega) | (apply Ops.quo; rfl; rfl; (constructor <;> omega); omega) | (apply Ops.ld; rfl; (first | exact m0 | exact m1 | exact m2 | exact m3 | exact m4 | exact m5 | exact m6); rfl) | (apply Ops.st0; rfl; rfl; rfl; rfl; (first | exact u0 | exact u1 | exact u2 | exact u3 | exact u4 | exact u5); focus (simp; done)) | refine Ops.nil ?_ | refine Segs.nil ?_ | (apply Segs.oneS; rfl) | refine Run.seq ?_ | refine Run.reg ?_ | refine Run.block ?_ | refine Run.blk ?_ | refine Run.skip ?_))
  refine Run.open_ s1 fun G ⟨hl, hG⟩ => ?_
  rcases hG with ⟨ha, h0, hc, hG⟩ | ⟨b, sp, ha, hnc, hcap, hG⟩
  · subst hG
    have : bs = [] := List.length_eq_zero_iff.1 h0
    subst this
    exact Run.ret1 Try.func35 rfl rfl (fold_grp (I := RdI r ⟨[], false⟩) (.cons s0 .nil) ⟨a, c, .inl ⟨rfl, rfl⟩⟩) ⟨r, rfl, rfl⟩
  · subst hG; subst ha
    simp only [List.cons_append, List.nil_append]
    refine Run.ret1 Try.func35 rfl rfl (fold_grp (I := RdI r ⟨bs, false⟩) (.cons s1 (.cons s0 .nil)) ⟨_, c, .inr ⟨b, 0, bvs bs ++ sp, _, _, rfl, ?_, hnc, ?_, rfl⟩⟩) ⟨r, rfl, rfl⟩
    · simp [bvs_len]
    · simp [← bvs_len bs]

/-- a reader is opened: its cells, and what it has of a block -/
theorem rec_Reader_Good (r : Nat) (R : Rd) (F : Hp) : Spec Try.prog 38 [.pointer (some ⟨r, 0, none⟩)].toArray F [RdP r R] fun v H => v = .bool (!R.bad) ∧ H = [RdP r R] := by
  refine Spec.enter (n := 8) Try.func38 ok_rec_Reader_Good rfl (by simp) ?_
  unfold ec_rec_Reader_Good
  simp only [argFr, Nat.reduceAdd]
  refine Run.open_ s0 fun G hG => ?_
  obtain ⟨a, c, ⟨hb, rfl⟩ | ⟨b, o, L, T, fz, ha, hl, hlc, ht, rfl⟩⟩ := hG
  · simp only [List.cons_append, List.nil_append]
    (repeat (first | (apply Ops.q; rfl; rfl) | (apply Ops.gyB; rfl; rfl) | (apply Ops.gnB; rfl; decide) | (apply Ops.add; rfl; rfl; (constructor <;> omega)) | (apply Ops.sub; rfl; rfl; (constructor <;> omega)) | (apply Ops.rem; rfl; rfl; omega; omega) | (apply Ops.quo; rfl; rfl; (constructor <;> omega); omega) | (apply Ops.ld; rfl; (first | exact m0 | exact m1 | exact m2 | exact m3 | exact m4 | exact m5 | exact m6); rfl) | (apply Ops.st0; rfl; rfl; rfl; rfl; (first | exact u0 | exact u1 | exact u2 | exact u3 | exact u4 | exact u5); focus (simp; done)) | refine Ops.nil ?_ | refine Segs.nil ?_ | (apply Segs.oneS; rfl) | refine Run.seq ?_ | refine Run.reg ?_ | refine Run.block ?_ | refine Run.blk ?_ | refine Run.skip ?_))
    exact Run.ret1 Try.func38 rfl rfl (fold_grp (.cons s0 .nil) ⟨a, c, .inl ⟨hb, rfl⟩⟩) ⟨rfl, rfl⟩
  · simp only [List.cons_append, List.nil_append]
    (repeat (first | (apply Ops.q; rfl; rfl) | (apply Ops.gyB; rfl; rfl) | (apply Ops.gnB; rfl; decide) | (apply Ops.add; rfl; rfl; (constructor <;> omega)) | (apply Ops.sub; rfl; rfl; (constructor <;> omega)) | (apply Ops.rem; rfl; rfl; omega; omega) | (apply Ops.quo; rfl; rfl; (constructor <;> omega); omega) | (apply Ops.ld; rfl; (first | exact m0 | exact m1 | exact m2 | exact m3 | exact m4 | exact m5 | exact m6); rfl) | (apply Ops.st0; rfl; rfl; rfl; rfl; (first | exact u0 | exact u1 | exact u2 | exact u3 | exact u4 | exact u5); focus (simp; done)) | refine Ops.nil ?_ | refine Segs.nil ?_ | (apply Segs.oneS; rfl) | refine Run.seq ?_ | refine Run.reg ?_ | refine Run.block ?_ | refine Run.blk ?_ | refine Run.skip ?_))
    exact Run.ret1 Try.func38 rfl rfl (fold_grp (.cons s0 (.cons s0 .nil)) ⟨a, c, .inr ⟨b, o, L, T, fz, ha, hl, hlc, ht, rfl⟩⟩) ⟨rfl, rfl⟩

end Eng
end Go.Proofs.Ytbhlolmglieehaa
