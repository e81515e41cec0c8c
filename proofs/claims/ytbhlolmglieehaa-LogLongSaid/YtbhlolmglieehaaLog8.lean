/- The log: the greatest epoch that was begun. -/
import Derived.Test.YtbhlolmglieehaaLog7
set_option linter.unusedSimpArgs false
set_option linter.unusedVariables false
namespace Go.Proofs.Ytbhlolmglieehaa

def lookStep (s : Bytes) (t : Nat) : Nat := if s[0]? = some 2 then max t ((⟨(s.drop 9).take 4, false⟩ : Rd).num 2147483648).1.toNat else t
def lookN (D : DiskS) : Nat → Nat → Nat → Nat
  | 0, _, t => t
  | n + 1, a, t => lookN D n (a + 1) (lookStep (D.at_ a) t)

theorem lookStep_le (s : Bytes) {t m : Nat} (h : t ≤ m) (hm : 2147483648 ≤ m) : lookStep s t ≤ m := by
  unfold lookStep
  split
  · have := Rd.num_range (most := 2147483648) (by omega) ⟨(s.drop 9).take 4, false⟩
    omega
  · exact h
theorem lookN_le (D : DiskS) {m : Nat} (hm : 2147483648 ≤ m) : ∀ (n a t : Nat), t ≤ m → lookN D n a t ≤ m
  | 0, _, _, h => h
  | n + 1, a, t, h => lookN_le D hm n (a + 1) _ (lookStep_le _ h hm)

theorem first_byte {s : Bytes} (hs : s.length = 64) : ∃ u r, s = u :: r := by
  cases s with
  | nil => simp at hs
  | cons a r => exact ⟨a, r, rfl⟩
theorem byte_eq (u : UInt8) (k : Nat) (hk : k < 256) : decide ((u.toNat : Int) = (k : Int)) = decide (u = UInt8.ofNat k) := by
  refine decide_eq_decide.2 ⟨fun e => ?_, fun e => ?_⟩
  · apply UInt8.toNat_inj.1
    rw [UInt8.toNat_ofNat', Nat.mod_eq_of_lt (by omega)]; omega
  · rw [e, UInt8.toNat_ofNat', Nat.mod_eq_of_lt (by omega)]

namespace Eng
attribute [local irreducible] Ops Segs Run Spec

theorem log_look (l d : Nat) (L : LogS) (a : Option Addr) (n c : Nat) (D : DiskS) (hok : D.Ok) (hd : D.down = false) (F : Hp) :
    Spec Try.prog 23 [.pointer (some ⟨l, 0, none⟩)].toArray F [.pt l (.cells (lcells d L a n c).toArray 55 (0, 0)), DiskP d D] fun v H =>
      v = .int .i64 0 ∧ H = [.pt l (.cells (lcells d { L with top := lookN D (D.kept.length - 2) 2 L.epoch } a n c).toArray 55 (0, 0)), DiskP d D] := by
  have hsz := hok.size
  refine Spec.enter (n := 50) Try.func23 ok_log_Log_look rfl (by simp) ?_
  unfold ec_log_Log_look
  simp only [argFr, Nat.reduceAdd]
  (repeat (first | (apply Ops.q; rfl; rfl) | (apply Ops.gyB; rfl; rfl) | (apply Ops.gnB; rfl; decide) | (apply Ops.add; rfl; rfl; (constructor <;> omega)) | (apply Ops.sub; rfl; rfl; (constructor <;> omega)) | (apply Ops.rem; rfl; rfl; omega; omega) | (apply Ops.quo; rfl; rfl; (constructor <;> omega); omega) | (apply Ops.ld; rfl; (first | exact m0 | exact m1 | exact m2 | exact m3 | exact m4 | exact m5 | exact m6); rfl) | (apply Ops.st0; rfl; rfl; rfl; rfl; (first | exact u0 | exact u1 | exact u2 | exact u3 | exact u4 | exact u5); focus (simp; done)) | refine Ops.nil ?_ | refine Segs.nil ?_ | (apply Segs.oneS; rfl) | refine Run.seq ?_ | refine Run.reg ?_ | refine Run.block ?_ | refine Run.blk ?_ | refine Run.skip ?_))
  refine Run.loopI (ι := Nat × Nat) (fun x => D.kept.length - x.1) (fun x => 2 ≤ x.1 ∧ lookN D (D.kept.length - 2) 2 L.epoch = lookN D (D.kept.length - x.1) x.1 x.2)
    (fun x => [(3, .int .i64 x.1), (0, .pointer (some ⟨l, 0, none⟩))]) (fun x => [.pt l (.cells (lcells d { L with top := x.2 } a n c).toArray 55 (0, 0)), DiskP d D])
    (2, L.epoch) ⟨Nat.le_refl _, rfl⟩ (.cons rfl (.cons rfl .nil)) (fun _ h => h) ?_
  rintro ⟨i, t⟩ ⟨hi, hlk⟩ ih
  dsimp only at hi hlk ih ⊢
  unfold ec_log_Log_look_L0
  (repeat (first | (apply Ops.q; rfl; rfl) | (apply Ops.gyB; rfl; rfl) | (apply Ops.gnB; rfl; decide) | (apply Ops.add; rfl; rfl; (constructor <;> omega)) | (apply Ops.sub; rfl; rfl; (constructor <;> omega)) | (apply Ops.rem; rfl; rfl; omega; omega) | (apply Ops.quo; rfl; rfl; (constructor <;> omega); omega) | (apply Ops.ld; rfl; (first | exact m0 | exact m1 | exact m2 | exact m3 | exact m4 | exact m5 | exact m6); rfl) | (apply Ops.st0; rfl; rfl; rfl; rfl; (first | exact u0 | exact u1 | exact u2 | exact u3 | exact u4 | exact u5); focus (simp; done)) | refine Ops.nil ?_ | refine Segs.nil ?_ | (apply Segs.oneS; rfl) | refine Run.seq ?_ | refine Run.reg ?_ | refine Run.block ?_ | refine Run.blk ?_ | refine Run.skip ?_))
  refine Ops.call1 rfl (.cons s1 .nil) (fun F' _ _ => disk_Len d D F') ?_
  rintro v G ⟨rfl, rfl⟩
  simp only [List.cons_append, List.nil_append]
  (repeat (first | (apply Ops.q; rfl; rfl) | (apply Ops.gyB; rfl; rfl) | (apply Ops.gnB; rfl; decide) | (apply Ops.add; rfl; rfl; (constructor <;> omega)) | (apply Ops.sub; rfl; rfl; (constructor <;> omega)) | (apply Ops.rem; rfl; rfl; omega; omega) | (apply Ops.quo; rfl; rfl; (constructor <;> omega); omega) | (apply Ops.ld; rfl; (first | exact m0 | exact m1 | exact m2 | exact m3 | exact m4 | exact m5 | exact m6); rfl) | (apply Ops.st0; rfl; rfl; rfl; rfl; (first | exact u0 | exact u1 | exact u2 | exact u3 | exact u4 | exact u5); focus (simp; done)) | refine Ops.nil ?_ | refine Segs.nil ?_ | (apply Segs.oneS; rfl) | refine Run.seq ?_ | refine Run.reg ?_ | refine Run.block ?_ | refine Run.blk ?_ | refine Run.skip ?_))
  refine Run.condD rfl (fun hlt => ?_) (fun hge => ?_)
  · have hlt' : i < D.kept.length := by omega
    have hlen := at_len hok hd hlt'
    rw [show D.kept.length - i = (D.kept.length - (i + 1)) + 1 by omega] at hlk
    simp only [lookN] at hlk
    have ih' := fun t => ih (i + 1, t)
    dsimp only at ih'
    clear ih
    (repeat (first | (apply Ops.q; rfl; rfl) | (apply Ops.gyB; rfl; rfl) | (apply Ops.gnB; rfl; decide) | (apply Ops.add; rfl; rfl; (constructor <;> omega)) | (apply Ops.sub; rfl; rfl; (constructor <;> omega)) | (apply Ops.rem; rfl; rfl; omega; omega) | (apply Ops.quo; rfl; rfl; (constructor <;> omega); omega) | (apply Ops.ld; rfl; (first | exact m0 | exact m1 | exact m2 | exact m3 | exact m4 | exact m5 | exact m6); rfl) | (apply Ops.st0; rfl; rfl; rfl; rfl; (first | exact u0 | exact u1 | exact u2 | exact u3 | exact u4 | exact u5); focus (simp; done)) | refine Ops.nil ?_ | refine Segs.nil ?_ | (apply Segs.oneS; rfl) | refine Run.seq ?_ | refine Run.reg ?_ | refine Run.block ?_ | refine Run.blk ?_ | refine Run.skip ?_))
    refine Ops.call1 rfl (.cons s0 .nil) (fun F' _ _ => disk_Read d D _ F') ?_
    rintro v G ⟨rfl, rfl⟩
    rw [DiskS.read_at hd hlt']
    simp only [List.cons_append, List.nil_append]
    generalize D.at_ i = s at *
    (repeat (first | (apply Ops.q; rfl; rfl) | (apply Ops.gyB; rfl; rfl) | (apply Ops.gnB; rfl; decide) | (apply Ops.add; rfl; rfl; (constructor <;> omega)) | (apply Ops.sub; rfl; rfl; (constructor <;> omega)) | (apply Ops.rem; rfl; rfl; omega; omega) | (apply Ops.quo; rfl; rfl; (constructor <;> omega); omega) | (apply Ops.ld; rfl; (first | exact m0 | exact m1 | exact m2 | exact m3 | exact m4 | exact m5 | exact m6); rfl) | (apply Ops.st0; rfl; rfl; rfl; rfl; (first | exact u0 | exact u1 | exact u2 | exact u3 | exact u4 | exact u5); focus (simp; done)) | refine Ops.nil ?_ | refine Segs.nil ?_ | (apply Segs.oneS; rfl) | refine Run.seq ?_ | refine Run.reg ?_ | refine Run.block ?_ | refine Run.blk ?_ | refine Run.skip ?_))
    refine Ops.alloc fun b4 => ?_
    refine Ops.stS hlen rfl rfl u0 ?_
    (repeat (first | (apply Ops.q; rfl; rfl) | (apply Ops.gyB; rfl; rfl) | (apply Ops.gnB; rfl; decide) | (apply Ops.add; rfl; rfl; (constructor <;> omega)) | (apply Ops.sub; rfl; rfl; (constructor <;> omega)) | (apply Ops.rem; rfl; rfl; omega; omega) | (apply Ops.quo; rfl; rfl; (constructor <;> omega); omega) | (apply Ops.ld; rfl; (first | exact m0 | exact m1 | exact m2 | exact m3 | exact m4 | exact m5 | exact m6); rfl) | (apply Ops.st0; rfl; rfl; rfl; rfl; (first | exact u0 | exact u1 | exact u2 | exact u3 | exact u4 | exact u5); focus (simp; done)) | refine Ops.nil ?_ | refine Segs.nil ?_ | (apply Segs.oneS; rfl) | refine Run.seq ?_ | refine Run.reg ?_ | refine Run.block ?_ | refine Run.blk ?_ | refine Run.skip ?_))
    refine Run.condF rfl ?_
    obtain ⟨u, r, rfl⟩ := first_byte hlen
    (repeat (first | (apply Ops.q; rfl; rfl) | (apply Ops.gyB; rfl; rfl) | (apply Ops.gnB; rfl; decide) | (apply Ops.add; rfl; rfl; (constructor <;> omega)) | (apply Ops.sub; rfl; rfl; (constructor <;> omega)) | (apply Ops.rem; rfl; rfl; omega; omega) | (apply Ops.quo; rfl; rfl; (constructor <;> omega); omega) | (apply Ops.ld; rfl; (first | exact m0 | exact m1 | exact m2 | exact m3 | exact m4 | exact m5 | exact m6); rfl) | (apply Ops.st0; rfl; rfl; rfl; rfl; (first | exact u0 | exact u1 | exact u2 | exact u3 | exact u4 | exact u5); focus (simp; done)) | refine Ops.nil ?_ | refine Segs.nil ?_ | (apply Segs.oneS; rfl) | refine Run.seq ?_ | refine Run.reg ?_ | refine Run.block ?_ | refine Run.blk ?_ | refine Run.skip ?_))
    refine Ops.ixA rfl rfl ⟨by omega, by omega⟩ ?_
    refine Ops.ld (v := bv u) rfl m0 rfl ?_
    unfold bv
    (repeat (first | (apply Ops.q; rfl; rfl) | (apply Ops.gyB; rfl; rfl) | (apply Ops.gnB; rfl; decide) | (apply Ops.add; rfl; rfl; (constructor <;> omega)) | (apply Ops.sub; rfl; rfl; (constructor <;> omega)) | (apply Ops.rem; rfl; rfl; omega; omega) | (apply Ops.quo; rfl; rfl; (constructor <;> omega); omega) | (apply Ops.ld; rfl; (first | exact m0 | exact m1 | exact m2 | exact m3 | exact m4 | exact m5 | exact m6); rfl) | (apply Ops.st0; rfl; rfl; rfl; rfl; (first | exact u0 | exact u1 | exact u2 | exact u3 | exact u4 | exact u5); focus (simp; done)) | refine Ops.nil ?_ | refine Segs.nil ?_ | (apply Segs.oneS; rfl) | refine Run.seq ?_ | refine Run.reg ?_ | refine Run.block ?_ | refine Run.blk ?_ | refine Run.skip ?_))
    have hu := byte_eq u 2 (by omega)
    refine Run.condD rfl (fun h2 => ?_) (fun h2 => ?_)
    · have hu2 : u = 2 := by apply UInt8.toNat_inj.1; rw [show (2 : UInt8).toNat = 2 from rfl]; omega
      have hst : lookStep (u :: r) t = max t ((⟨((u :: r).drop 9).take 4, false⟩ : Rd).num 2147483648).1.toNat := by unfold lookStep; rw [if_pos (by rw [hu2]; rfl)]
      rw [hst] at hlk
      (repeat (first | (apply Ops.q; rfl; rfl) | (apply Ops.gyB; rfl; rfl) | (apply Ops.gnB; rfl; decide) | (apply Ops.add; rfl; rfl; (constructor <;> omega)) | (apply Ops.sub; rfl; rfl; (constructor <;> omega)) | (apply Ops.rem; rfl; rfl; omega; omega) | (apply Ops.quo; rfl; rfl; (constructor <;> omega); omega) | (apply Ops.ld; rfl; (first | exact m0 | exact m1 | exact m2 | exact m3 | exact m4 | exact m5 | exact m6); rfl) | (apply Ops.st0; rfl; rfl; rfl; rfl; (first | exact u0 | exact u1 | exact u2 | exact u3 | exact u4 | exact u5); focus (simp; done)) | refine Ops.nil ?_ | refine Segs.nil ?_ | (apply Segs.oneS; rfl) | refine Run.seq ?_ | refine Run.reg ?_ | refine Run.block ?_ | refine Run.blk ?_ | refine Run.skip ?_))
      refine Ops.slA (l1 := 9) (h1 := 13) rfl rfl rfl (by omega) (by omega) fun a1 ha1 => ?_
      refine Ops.call1 rfl .nil (fun F' e kn => rec_Read _ _ F' (rdB_at (kn _ _ m0) 4 (o := 9) (by omega) (a := a1) (c := 55) (ha1.imp id (by omega))) (by simp; omega)) ?_
      rintro v G ⟨rb, rfl, rfl⟩
      simp only [List.cons_append, List.nil_append]
      have hnr := Rd.num_range (most := 2147483648) (by omega) ⟨((u :: r).drop 9).take 4, false⟩
      (repeat (first | (apply Ops.q; rfl; rfl) | (apply Ops.gyB; rfl; rfl) | (apply Ops.gnB; rfl; decide) | (apply Ops.add; rfl; rfl; (constructor <;> omega)) | (apply Ops.sub; rfl; rfl; (constructor <;> omega)) | (apply Ops.rem; rfl; rfl; omega; omega) | (apply Ops.quo; rfl; rfl; (constructor <;> omega); omega) | (apply Ops.ld; rfl; (first | exact m0 | exact m1 | exact m2 | exact m3 | exact m4 | exact m5 | exact m6); rfl) | (apply Ops.st0; rfl; rfl; rfl; rfl; (first | exact u0 | exact u1 | exact u2 | exact u3 | exact u4 | exact u5); focus (simp; done)) | refine Ops.nil ?_ | refine Segs.nil ?_ | (apply Segs.oneS; rfl) | refine Run.seq ?_ | refine Run.reg ?_ | refine Run.block ?_ | refine Run.blk ?_ | refine Run.skip ?_))
      refine Segs.lend [_] (.cons s3 .nil) fun F1 x1 k1 => ?_
      (repeat (first | (apply Ops.q; rfl; rfl) | (apply Ops.gyB; rfl; rfl) | (apply Ops.gnB; rfl; decide) | (apply Ops.add; rfl; rfl; (constructor <;> omega)) | (apply Ops.sub; rfl; rfl; (constructor <;> omega)) | (apply Ops.rem; rfl; rfl; omega; omega) | (apply Ops.quo; rfl; rfl; (constructor <;> omega); omega) | (apply Ops.ld; rfl; (first | exact m0 | exact m1 | exact m2 | exact m3 | exact m4 | exact m5 | exact m6); rfl) | (apply Ops.st0; rfl; rfl; rfl; rfl; (first | exact u0 | exact u1 | exact u2 | exact u3 | exact u4 | exact u5); focus (simp; done)) | refine Ops.nil ?_ | refine Segs.nil ?_ | (apply Segs.oneS; rfl) | refine Run.seq ?_ | refine Run.reg ?_ | refine Run.block ?_ | refine Run.blk ?_ | refine Run.skip ?_))
      refine Ops.ldF rfl (k1 _ _ m0) rfl ?_
      refine Ops.call1 rfl (.cons s0 .nil) (fun F' e _ => rec_Reader_Num rb _ 2147483648 (by simp; omega) F') ?_
      rintro v G ⟨rfl, rfl⟩
      simp only [List.cons_append, List.nil_append]
      generalize ((⟨((u :: r).drop 9).take 4, false⟩ : Rd).num 2147483648) = rr at *
      refine Ops.nil (Segs.oneS rfl ?_)
      refine Ops.pE (v' := .int .i64 ((max t rr.1.toNat : Nat) : Int)) rfl (by congr 1; split <;> omega) ?_
      (repeat (first | (apply Ops.q; rfl; rfl) | (apply Ops.gyB; rfl; rfl) | (apply Ops.gnB; rfl; decide) | (apply Ops.add; rfl; rfl; (constructor <;> omega)) | (apply Ops.sub; rfl; rfl; (constructor <;> omega)) | (apply Ops.rem; rfl; rfl; omega; omega) | (apply Ops.quo; rfl; rfl; (constructor <;> omega); omega) | (apply Ops.ld; rfl; (first | exact m0 | exact m1 | exact m2 | exact m3 | exact m4 | exact m5 | exact m6); rfl) | (apply Ops.st0; rfl; rfl; rfl; rfl; (first | exact u0 | exact u1 | exact u2 | exact u3 | exact u4 | exact u5); focus (simp; done)) | refine Ops.nil ?_ | refine Segs.nil ?_ | (apply Segs.oneS; rfl) | refine Run.seq ?_ | refine Run.reg ?_ | refine Run.block ?_ | refine Run.blk ?_ | refine Run.skip ?_))
      exact Run.lp (Run.again (ih' _ (by omega) ⟨by omega, hlk⟩) (.cons rfl (.cons rfl .nil)) (fun h q => take_sub (.cons s0 (.cons s2 .nil)) h q))
    · have hst : lookStep (u :: r) t = t := by unfold lookStep; rw [if_neg (by simp only [List.getElem?_cons_zero, Option.some.injEq]; intro e; subst e; exact h2 rfl)]
      rw [hst] at hlk
      (repeat (first | (apply Ops.q; rfl; rfl) | (apply Ops.gyB; rfl; rfl) | (apply Ops.gnB; rfl; decide) | (apply Ops.add; rfl; rfl; (constructor <;> omega)) | (apply Ops.sub; rfl; rfl; (constructor <;> omega)) | (apply Ops.rem; rfl; rfl; omega; omega) | (apply Ops.quo; rfl; rfl; (constructor <;> omega); omega) | (apply Ops.ld; rfl; (first | exact m0 | exact m1 | exact m2 | exact m3 | exact m4 | exact m5 | exact m6); rfl) | (apply Ops.st0; rfl; rfl; rfl; rfl; (first | exact u0 | exact u1 | exact u2 | exact u3 | exact u4 | exact u5); focus (simp; done)) | refine Ops.nil ?_ | refine Segs.nil ?_ | (apply Segs.oneS; rfl) | refine Run.seq ?_ | refine Run.reg ?_ | refine Run.block ?_ | refine Run.blk ?_ | refine Run.skip ?_))
      exact Run.lp (Run.again (ih' t (by omega) ⟨by omega, hlk⟩) (.cons rfl (.cons rfl .nil)) (fun h q => take_sub (.cons s2 (.cons s1 .nil)) h q))
  · have : D.kept.length - i = 0 := by omega
    rw [this] at hlk
    simp only [lookN] at hlk
    rw [hlk]
    refine Run.exit rfl ?_
    (repeat (first | (apply Ops.q; rfl; rfl) | (apply Ops.gyB; rfl; rfl) | (apply Ops.gnB; rfl; decide) | (apply Ops.add; rfl; rfl; (constructor <;> omega)) | (apply Ops.sub; rfl; rfl; (constructor <;> omega)) | (apply Ops.rem; rfl; rfl; omega; omega) | (apply Ops.quo; rfl; rfl; (constructor <;> omega); omega) | (apply Ops.ld; rfl; (first | exact m0 | exact m1 | exact m2 | exact m3 | exact m4 | exact m5 | exact m6); rfl) | (apply Ops.st0; rfl; rfl; rfl; rfl; (first | exact u0 | exact u1 | exact u2 | exact u3 | exact u4 | exact u5); focus (simp; done)) | refine Ops.nil ?_ | refine Segs.nil ?_ | (apply Segs.oneS; rfl) | refine Run.seq ?_ | refine Run.reg ?_ | refine Run.block ?_ | refine Run.blk ?_ | refine Run.skip ?_))
    exact Run.ret1 Try.func23 rfl rfl (fun h q => take_sub (.cons s1 (.cons s0 .nil)) h q) ⟨rfl, rfl⟩
end Eng
end Go.Proofs.Ytbhlolmglieehaa
