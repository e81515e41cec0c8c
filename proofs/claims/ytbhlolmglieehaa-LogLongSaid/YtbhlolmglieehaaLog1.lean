/- The log's small functions. -/
import Derived.Test.YtbhlolmglieehaaModLog
import Derived.Test.YtbhlolmglieehaaDisk5
import Derived.Test.YtbhlolmglieehaaRec3
set_option linter.unusedSimpArgs false
set_option linter.unusedVariables false
namespace Go.Proofs.Ytbhlolmglieehaa
namespace Eng
attribute [local irreducible] Ops Segs Run Spec

section
variable {P : Program} {F : Hp} {l : Fr} {H : List HA} {C : Fr → List HA → Prop} {es : List EG} {i d : Nat} {c : Bool}

theorem bvs_ne {s : Bytes} (hs : s.length = 64) : bvs s ≠ [] := by intro h; have := congrArg List.length h; rw [bvs_len, hs] at this; cases this
/-- a sector is put into a new place -/
theorem Ops.stS {x y : Operand} {b : Nat} {T : TypeId} {s : Bytes} {H' : List HA} (hs : s.length = 64) (hx : get l x = some (.pointer (some ⟨b, 0, none⟩))) (hy : get l y = some (.agg (bvs s).toArray))
    (u : Upd H (.pt b (.cells zl64_intu80.toArray T (0, 0))) (.pt b (.cells (bvs s).toArray T (0, 0))) H')
    (k : Ops P F es l H' C) : Ops P F (EG.mk i none none false (.st x y 64) :: es) l H C := by
  refine Ops.stn0 (L := zl64_intu80) (T := T) (vs := bvs s) hx hy rfl (by rw [bvs_len, hs]) (bvs_one s) ?_ (by simp [zl64_intu80]) (bvs_ne hs) k
  have : List.take 0 zl64_intu80 ++ bvs s ++ List.drop (0 + 64) zl64_intu80 = bvs s := by simp [zl64_intu80]
  rw [this]; exact u
end

theorem at_len {D : DiskS} (hok : D.Ok) (hd : D.down = false) {a : Nat} (ha : a < D.kept.length) : (D.at_ a).length = 64 := by
  have := DiskS.read_len hok a
  rw [DiskS.read_at hd ha] at this; exact this

theorem log_half (d : Nat) (D : DiskS) (h2 : 2 ≤ D.kept.length ∧ D.kept.length ≤ 4096) (F : Hp) :
    Spec Try.prog 26 [.pointer (some ⟨d, 0, none⟩)].toArray F [DiskP d D] fun v H => v = .int .i64 D.hf ∧ H = [DiskP d D] := by
  refine Spec.enter (n := 7) Try.func26 ok_log_half rfl (by simp) ?_
  unfold ec_log_half
  simp only [argFr, Nat.reduceAdd]
  (repeat (first | (apply Ops.q; rfl; rfl) | (apply Ops.gyB; rfl; rfl) | (apply Ops.gnB; rfl; decide) | (apply Ops.add; rfl; rfl; (constructor <;> omega)) | (apply Ops.sub; rfl; rfl; (constructor <;> omega)) | (apply Ops.rem; rfl; rfl; omega; omega) | (apply Ops.quo; rfl; rfl; (constructor <;> omega); omega) | (apply Ops.ld; rfl; (first | exact m0 | exact m1 | exact m2 | exact m3 | exact m4 | exact m5 | exact m6); rfl) | (apply Ops.st0; rfl; rfl; rfl; rfl; (first | exact u0 | exact u1 | exact u2 | exact u3 | exact u4 | exact u5); focus (simp; done)) | refine Ops.nil ?_ | refine Segs.nil ?_ | (apply Segs.oneS; rfl) | refine Run.seq ?_ | refine Run.reg ?_ | refine Run.block ?_ | refine Run.blk ?_ | refine Run.skip ?_))
  refine Ops.call1 rfl (.cons s0 .nil) (fun F' _ _ => disk_Len d D F') ?_
  rintro v G ⟨rfl, rfl⟩
  simp only [List.cons_append, List.nil_append]
  (repeat (first | (apply Ops.q; rfl; rfl) | (apply Ops.gyB; rfl; rfl) | (apply Ops.gnB; rfl; decide) | (apply Ops.add; rfl; rfl; (constructor <;> omega)) | (apply Ops.sub; rfl; rfl; (constructor <;> omega)) | (apply Ops.rem; rfl; rfl; omega; omega) | (apply Ops.quo; rfl; rfl; (constructor <;> omega); omega) | (apply Ops.ld; rfl; (first | exact m0 | exact m1 | exact m2 | exact m3 | exact m4 | exact m5 | exact m6); rfl) | (apply Ops.st0; rfl; rfl; rfl; rfl; (first | exact u0 | exact u1 | exact u2 | exact u3 | exact u4 | exact u5); focus (simp; done)) | refine Ops.nil ?_ | refine Segs.nil ?_ | (apply Segs.oneS; rfl) | refine Run.seq ?_ | refine Run.reg ?_ | refine Run.block ?_ | refine Run.blk ?_ | refine Run.skip ?_))
  refine Run.ret1 Try.func26 rfl rfl (fun h q => q) ⟨?_, rfl⟩
  unfold DiskS.hf
  congr 1; omega

theorem log_sectors (n : Nat) (hn : n ≤ 1099511627776) (F : Hp) :
    Spec Try.prog 25 [.int .i64 n].toArray F [] fun v H => v = .int .i64 (sectorsOf n) ∧ H = [] := by
  refine Spec.enter (n := 8) Try.func25 ok_log_sectors rfl (by simp) ?_
  unfold ec_log_sectors
  simp only [argFr, Nat.reduceAdd]
  (repeat (first | (apply Ops.q; rfl; rfl) | (apply Ops.gyB; rfl; rfl) | (apply Ops.gnB; rfl; decide) | (apply Ops.add; rfl; rfl; (constructor <;> omega)) | (apply Ops.sub; rfl; rfl; (constructor <;> omega)) | (apply Ops.rem; rfl; rfl; omega; omega) | (apply Ops.quo; rfl; rfl; (constructor <;> omega); omega) | (apply Ops.ld; rfl; (first | exact m0 | exact m1 | exact m2 | exact m3 | exact m4 | exact m5 | exact m6); rfl) | (apply Ops.st0; rfl; rfl; rfl; rfl; (first | exact u0 | exact u1 | exact u2 | exact u3 | exact u4 | exact u5); focus (simp; done)) | refine Ops.nil ?_ | refine Segs.nil ?_ | (apply Segs.oneS; rfl) | refine Run.seq ?_ | refine Run.reg ?_ | refine Run.block ?_ | refine Run.blk ?_ | refine Run.skip ?_))
  refine Run.ret1 Try.func25 rfl rfl (fun h q => q) ⟨?_, rfl⟩
  unfold sectorsOf
  congr 1; omega

theorem log_Room (n : Nat) (hn : n ≤ 1099511627776) (F : Hp) :
    Spec Try.prog 15 [.int .i64 n].toArray F [] fun v H => v = .int .i64 (sectorsOf n) ∧ H = [] := by
  refine Spec.enter (n := 6) Try.func15 ok_log_Room rfl (by simp) ?_
  unfold ec_log_Room
  simp only [argFr, Nat.reduceAdd]
  (repeat (first | (apply Ops.q; rfl; rfl) | (apply Ops.gyB; rfl; rfl) | (apply Ops.gnB; rfl; decide) | (apply Ops.add; rfl; rfl; (constructor <;> omega)) | (apply Ops.sub; rfl; rfl; (constructor <;> omega)) | (apply Ops.rem; rfl; rfl; omega; omega) | (apply Ops.quo; rfl; rfl; (constructor <;> omega); omega) | (apply Ops.ld; rfl; (first | exact m0 | exact m1 | exact m2 | exact m3 | exact m4 | exact m5 | exact m6); rfl) | (apply Ops.st0; rfl; rfl; rfl; rfl; (first | exact u0 | exact u1 | exact u2 | exact u3 | exact u4 | exact u5); focus (simp; done)) | refine Ops.nil ?_ | refine Segs.nil ?_ | (apply Segs.oneS; rfl) | refine Run.seq ?_ | refine Run.reg ?_ | refine Run.block ?_ | refine Run.blk ?_ | refine Run.skip ?_))
  rw [if_neg (by omega)]
  refine Ops.call1 rfl .nil (fun F' _ _ => log_sectors n hn F') ?_
  rintro v G ⟨rfl, rfl⟩
  simp only [List.nil_append]
  (repeat (first | (apply Ops.q; rfl; rfl) | (apply Ops.gyB; rfl; rfl) | (apply Ops.gnB; rfl; decide) | (apply Ops.add; rfl; rfl; (constructor <;> omega)) | (apply Ops.sub; rfl; rfl; (constructor <;> omega)) | (apply Ops.rem; rfl; rfl; omega; omega) | (apply Ops.quo; rfl; rfl; (constructor <;> omega); omega) | (apply Ops.ld; rfl; (first | exact m0 | exact m1 | exact m2 | exact m3 | exact m4 | exact m5 | exact m6); rfl) | (apply Ops.st0; rfl; rfl; rfl; rfl; (first | exact u0 | exact u1 | exact u2 | exact u3 | exact u4 | exact u5); focus (simp; done)) | refine Ops.nil ?_ | refine Segs.nil ?_ | (apply Segs.oneS; rfl) | refine Run.seq ?_ | refine Run.reg ?_ | refine Run.block ?_ | refine Run.blk ?_ | refine Run.skip ?_))
  exact Run.ret1 Try.func15 rfl rfl (fun h q => q) ⟨rfl, rfl⟩

theorem log_die (l d : Nat) (L : LogS) (a : Option Addr) (n c : Nat) (e : Int) (F : Hp) :
    Spec Try.prog 29 [.pointer (some ⟨l, 0, none⟩), .int .i64 e].toArray F [.pt l (.cells (lcells d L a n c).toArray 55 (0, 0))] fun v H =>
      v = .int .i64 e ∧ H = [.pt l (.cells (lcells d { L with dead := L.dead || decide (e ≠ 0) } a n c).toArray 55 (0, 0))] := by
  refine Spec.enter (n := 17) Try.func29 ok_log_Log_die rfl (by simp) ?_
  unfold ec_log_Log_die
  simp only [argFr, Nat.reduceAdd]
  unfold lcells
  cases hd : L.dead with
  | true =>
    (repeat (first | (apply Ops.q; rfl; rfl) | (apply Ops.gyB; rfl; rfl) | (apply Ops.gnB; rfl; decide) | (apply Ops.add; rfl; rfl; (constructor <;> omega)) | (apply Ops.sub; rfl; rfl; (constructor <;> omega)) | (apply Ops.rem; rfl; rfl; omega; omega) | (apply Ops.quo; rfl; rfl; (constructor <;> omega); omega) | (apply Ops.ld; rfl; (first | exact m0 | exact m1 | exact m2 | exact m3 | exact m4 | exact m5 | exact m6); rfl) | (apply Ops.st0; rfl; rfl; rfl; rfl; (first | exact u0 | exact u1 | exact u2 | exact u3 | exact u4 | exact u5); focus (simp; done)) | refine Ops.nil ?_ | refine Segs.nil ?_ | (apply Segs.oneS; rfl) | refine Run.seq ?_ | refine Run.reg ?_ | refine Run.block ?_ | refine Run.blk ?_ | refine Run.skip ?_))
    exact Run.ret1 Try.func29 rfl rfl (fun h q => q) ⟨rfl, rfl⟩
  | false =>
    (repeat (first | (apply Ops.q; rfl; rfl) | (apply Ops.gyB; rfl; rfl) | (apply Ops.gnB; rfl; decide) | (apply Ops.add; rfl; rfl; (constructor <;> omega)) | (apply Ops.sub; rfl; rfl; (constructor <;> omega)) | (apply Ops.rem; rfl; rfl; omega; omega) | (apply Ops.quo; rfl; rfl; (constructor <;> omega); omega) | (apply Ops.ld; rfl; (first | exact m0 | exact m1 | exact m2 | exact m3 | exact m4 | exact m5 | exact m6); rfl) | (apply Ops.st0; rfl; rfl; rfl; rfl; (first | exact u0 | exact u1 | exact u2 | exact u3 | exact u4 | exact u5); focus (simp; done)) | refine Ops.nil ?_ | refine Segs.nil ?_ | (apply Segs.oneS; rfl) | refine Run.seq ?_ | refine Run.reg ?_ | refine Run.block ?_ | refine Run.blk ?_ | refine Run.skip ?_))
    refine Run.ret1 Try.func29 rfl rfl (fun h q => q) ⟨rfl, ?_⟩
    simp [pickV]

theorem log_read (l d : Nat) (L : LogS) (a : Option Addr) (n c : Nat) (D : DiskS) (hd : D.down = false) (h2 : 2 ≤ D.kept.length ∧ D.kept.length ≤ 4096) (k : Nat) (hh : L.half ≤ 1) (hk : k < D.hf) (hok : D.Ok) (F : Hp)
    (hF : F l = some (.cells (lcells d L a n c).toArray 55 (0, 0))) :
    Spec Try.prog 37 [.pointer (some ⟨l, 0, none⟩), .int .i64 k].toArray F [DiskP d D] fun v H => v = .tuple [.agg (bvs (D.at_ (L.base D k))).toArray, .int .i64 0].toArray ∧ H = [DiskP d D] := by
  refine Spec.enter (n := 26) Try.func37 ok_log_Log_read rfl (by simp) ?_
  unfold ec_log_Log_read
  simp only [argFr, Nat.reduceAdd]
  refine Run.seq (Run.reg (Segs.oneS rfl (Ops.alloc fun b4 => ?_)))
  (repeat (first | (apply Ops.q; rfl; rfl) | (apply Ops.gyB; rfl; rfl) | (apply Ops.gnB; rfl; decide) | (apply Ops.add; rfl; rfl; (constructor <;> omega)) | (apply Ops.sub; rfl; rfl; (constructor <;> omega)) | (apply Ops.rem; rfl; rfl; omega; omega) | (apply Ops.quo; rfl; rfl; (constructor <;> omega); omega) | (apply Ops.ld; rfl; (first | exact m0 | exact m1 | exact m2 | exact m3 | exact m4 | exact m5 | exact m6); rfl) | (apply Ops.st0; rfl; rfl; rfl; rfl; (first | exact u0 | exact u1 | exact u2 | exact u3 | exact u4 | exact u5); focus (simp; done)) | refine Ops.nil ?_ | refine Segs.nil ?_ | (apply Segs.oneS; rfl) | refine Run.seq ?_ | refine Run.reg ?_ | refine Run.block ?_ | refine Run.blk ?_ | refine Run.skip ?_))
  have hm : L.half * D.hf ≤ D.hf := by have := Nat.mul_le_mul_right D.hf hh; omega
  have hmi : (L.half : Int) * (D.hf : Int) = ((L.half * D.hf : Nat) : Int) := by push_cast; rfl
  have hf : D.hf * 2 + 2 ≤ D.kept.length := by unfold DiskS.hf; omega
  refine Segs.lend [_] (.cons s0 .nil) fun F1 x1 k1 => ?_
  (repeat (first | (apply Ops.q; rfl; rfl) | (apply Ops.gyB; rfl; rfl) | (apply Ops.gnB; rfl; decide) | (apply Ops.add; rfl; rfl; (constructor <;> omega)) | (apply Ops.sub; rfl; rfl; (constructor <;> omega)) | (apply Ops.rem; rfl; rfl; omega; omega) | (apply Ops.quo; rfl; rfl; (constructor <;> omega); omega) | (apply Ops.ld; rfl; (first | exact m0 | exact m1 | exact m2 | exact m3 | exact m4 | exact m5 | exact m6); rfl) | (apply Ops.st0; rfl; rfl; rfl; rfl; (first | exact u0 | exact u1 | exact u2 | exact u3 | exact u4 | exact u5); focus (simp; done)) | refine Ops.nil ?_ | refine Segs.nil ?_ | (apply Segs.oneS; rfl) | refine Run.seq ?_ | refine Run.reg ?_ | refine Run.block ?_ | refine Run.blk ?_ | refine Run.skip ?_))
  refine Ops.ldF rfl (x1 _ _ hF) rfl ?_
  refine Ops.ldF rfl (x1 _ _ hF) rfl ?_
  refine Ops.ldF rfl (x1 _ _ hF) rfl ?_
  refine Ops.call1 rfl (.cons s0 .nil) (fun F' _ _ => log_half d D h2 F') ?_
  rintro v G ⟨rfl, rfl⟩
  simp only [List.cons_append, List.nil_append]
  refine Ops.mul rfl rfl ⟨by omega, by omega⟩ ?_
  (repeat (first | (apply Ops.q; rfl; rfl) | (apply Ops.gyB; rfl; rfl) | (apply Ops.gnB; rfl; decide) | (apply Ops.add; rfl; rfl; (constructor <;> omega)) | (apply Ops.sub; rfl; rfl; (constructor <;> omega)) | (apply Ops.rem; rfl; rfl; omega; omega) | (apply Ops.quo; rfl; rfl; (constructor <;> omega); omega) | (apply Ops.ld; rfl; (first | exact m0 | exact m1 | exact m2 | exact m3 | exact m4 | exact m5 | exact m6); rfl) | (apply Ops.st0; rfl; rfl; rfl; rfl; (first | exact u0 | exact u1 | exact u2 | exact u3 | exact u4 | exact u5); focus (simp; done)) | refine Ops.nil ?_ | refine Segs.nil ?_ | (apply Segs.oneS; rfl) | refine Run.seq ?_ | refine Run.reg ?_ | refine Run.block ?_ | refine Run.blk ?_ | refine Run.skip ?_))
  have hb : (2 : Int) + (L.half : Int) * (D.hf : Int) + (k : Int) = ((L.base D k : Nat) : Int) := by unfold LogS.base; push_cast; rfl
  have hlt : L.base D k < D.kept.length := by unfold LogS.base; omega
  have hlen := at_len hok hd hlt
  rw [hb]
  refine Ops.call1 rfl (.cons s1 .nil) (fun F' _ _ => disk_Read d D _ F') ?_
  rintro v G ⟨rfl, rfl⟩
  rw [DiskS.read_at hd hlt]
  simp only [List.cons_append, List.nil_append]
  (repeat (first | (apply Ops.q; rfl; rfl) | (apply Ops.gyB; rfl; rfl) | (apply Ops.gnB; rfl; decide) | (apply Ops.add; rfl; rfl; (constructor <;> omega)) | (apply Ops.sub; rfl; rfl; (constructor <;> omega)) | (apply Ops.rem; rfl; rfl; omega; omega) | (apply Ops.quo; rfl; rfl; (constructor <;> omega); omega) | (apply Ops.ld; rfl; (first | exact m0 | exact m1 | exact m2 | exact m3 | exact m4 | exact m5 | exact m6); rfl) | (apply Ops.st0; rfl; rfl; rfl; rfl; (first | exact u0 | exact u1 | exact u2 | exact u3 | exact u4 | exact u5); focus (simp; done)) | refine Ops.nil ?_ | refine Segs.nil ?_ | (apply Segs.oneS; rfl) | refine Run.seq ?_ | refine Run.reg ?_ | refine Run.block ?_ | refine Run.blk ?_ | refine Run.skip ?_))
  refine Ops.stS hlen rfl rfl u1 ?_
  (repeat (first | (apply Ops.q; rfl; rfl) | (apply Ops.gyB; rfl; rfl) | (apply Ops.gnB; rfl; decide) | (apply Ops.add; rfl; rfl; (constructor <;> omega)) | (apply Ops.sub; rfl; rfl; (constructor <;> omega)) | (apply Ops.rem; rfl; rfl; omega; omega) | (apply Ops.quo; rfl; rfl; (constructor <;> omega); omega) | (apply Ops.ld; rfl; (first | exact m0 | exact m1 | exact m2 | exact m3 | exact m4 | exact m5 | exact m6); rfl) | (apply Ops.st0; rfl; rfl; rfl; rfl; (first | exact u0 | exact u1 | exact u2 | exact u3 | exact u4 | exact u5); focus (simp; done)) | refine Ops.nil ?_ | refine Segs.nil ?_ | (apply Segs.oneS; rfl) | refine Run.seq ?_ | refine Run.reg ?_ | refine Run.block ?_ | refine Run.blk ?_ | refine Run.skip ?_))
  exact Run.ret Try.func37 (rs := [.cell 4 57, .tmp 5]) rfl (.celln rfl sector_agg sector_info (.inl m1) (by rw [bvs_len, hlen]; exact Nat.le_refl 64) (.tmp rfl .nil)) (fun h q => take_sub (.cons s0 .nil) h q) ⟨by rw [List.drop_zero, List.take_of_length_le (by rw [bvs_len, hlen]; exact Nat.le_refl 64)]; rfl, rfl⟩

theorem log_Left (l d : Nat) (L : LogS) (D : DiskS) (h2 : 2 ≤ D.kept.length ∧ D.kept.length ≤ 4096) (hp : L.pos ≤ 65536) (F : Hp) :
    Spec Try.prog 12 [.pointer (some ⟨l, 0, none⟩)].toArray F [LogP l d L, DiskP d D] fun v H => v = .int .i64 ((D.hf : Int) - L.pos) ∧ H = [LogP l d L, DiskP d D] := by
  refine Spec.enter (n := 13) Try.func12 ok_log_Log_Left rfl (by simp) ?_
  unfold ec_log_Log_Left
  simp only [argFr, Nat.reduceAdd]
  refine Run.open_ s0 fun G ⟨a, c, vs, hh, hvl, hG⟩ => ?_
  subst hG
  simp only [List.cons_append, List.nil_append]
  have hfold : ∀ h, seps [DiskP d D, .pt l (.cells (lcells d L a vs.length c).toArray 55 (0, 0)), OwnS a vs.length c 1 30 vs, RowsP vs L.list] h → seps [LogP l d L, DiskP d D] h :=
    fun h q => fold_grp (.cons s1 (.cons s1 (.cons s1 .nil))) ⟨a, c, vs, hh, hvl, rfl⟩ h q
  unfold lcells at *
  have hf : D.hf * 2 + 2 ≤ D.kept.length := by unfold DiskS.hf; omega
  (repeat (first | (apply Ops.q; rfl; rfl) | (apply Ops.gyB; rfl; rfl) | (apply Ops.gnB; rfl; decide) | (apply Ops.add; rfl; rfl; (constructor <;> omega)) | (apply Ops.sub; rfl; rfl; (constructor <;> omega)) | (apply Ops.rem; rfl; rfl; omega; omega) | (apply Ops.quo; rfl; rfl; (constructor <;> omega); omega) | (apply Ops.ld; rfl; (first | exact m0 | exact m1 | exact m2 | exact m3 | exact m4 | exact m5 | exact m6); rfl) | (apply Ops.st0; rfl; rfl; rfl; rfl; (first | exact u0 | exact u1 | exact u2 | exact u3 | exact u4 | exact u5); focus (simp; done)) | refine Ops.nil ?_ | refine Segs.nil ?_ | (apply Segs.oneS; rfl) | refine Run.seq ?_ | refine Run.reg ?_ | refine Run.block ?_ | refine Run.blk ?_ | refine Run.skip ?_))
  refine Segs.lend [_] (.cons s0 .nil) fun F1 x1 k1 => ?_
  (repeat (first | (apply Ops.q; rfl; rfl) | (apply Ops.gyB; rfl; rfl) | (apply Ops.gnB; rfl; decide) | (apply Ops.add; rfl; rfl; (constructor <;> omega)) | (apply Ops.sub; rfl; rfl; (constructor <;> omega)) | (apply Ops.rem; rfl; rfl; omega; omega) | (apply Ops.quo; rfl; rfl; (constructor <;> omega); omega) | (apply Ops.ld; rfl; (first | exact m0 | exact m1 | exact m2 | exact m3 | exact m4 | exact m5 | exact m6); rfl) | (apply Ops.st0; rfl; rfl; rfl; rfl; (first | exact u0 | exact u1 | exact u2 | exact u3 | exact u4 | exact u5); focus (simp; done)) | refine Ops.nil ?_ | refine Segs.nil ?_ | (apply Segs.oneS; rfl) | refine Run.seq ?_ | refine Run.reg ?_ | refine Run.block ?_ | refine Run.blk ?_ | refine Run.skip ?_))
  refine Ops.ldF rfl (k1 _ _ m0) rfl ?_
  refine Ops.ldF rfl (k1 _ _ m0) rfl ?_
  refine Ops.call1 rfl (.cons s2 .nil) (fun F' _ _ => log_half d D h2 F') ?_
  rintro v G ⟨rfl, rfl⟩
  simp only [List.cons_append, List.nil_append]
  (repeat (first | (apply Ops.q; rfl; rfl) | (apply Ops.gyB; rfl; rfl) | (apply Ops.gnB; rfl; decide) | (apply Ops.add; rfl; rfl; (constructor <;> omega)) | (apply Ops.sub; rfl; rfl; (constructor <;> omega)) | (apply Ops.rem; rfl; rfl; omega; omega) | (apply Ops.quo; rfl; rfl; (constructor <;> omega); omega) | (apply Ops.ld; rfl; (first | exact m0 | exact m1 | exact m2 | exact m3 | exact m4 | exact m5 | exact m6); rfl) | (apply Ops.st0; rfl; rfl; rfl; rfl; (first | exact u0 | exact u1 | exact u2 | exact u3 | exact u4 | exact u5); focus (simp; done)) | refine Ops.nil ?_ | refine Segs.nil ?_ | (apply Segs.oneS; rfl) | refine Run.seq ?_ | refine Run.reg ?_ | refine Run.block ?_ | refine Run.blk ?_ | refine Run.skip ?_))
  exact Run.ret1 Try.func12 rfl rfl (fun h q => hfold h (take_sub (.cons s1 (.cons s0 (.cons s0 (.cons s0 .nil)))) h q)) ⟨rfl, rfl⟩
end Eng
end Go.Proofs.Ytbhlolmglieehaa
