/- The log: sectors are written. -/
import Derived.Test.YtbhlolmglieehaaLog2
set_option linter.unusedSimpArgs false
set_option linter.unusedVariables false
namespace Go.Proofs.Ytbhlolmglieehaa

namespace DiskS
theorem step_cache (D : DiskS) : D.step.2.cache.length ≤ D.cache.length := by
  unfold DiskS.step
  split
  · split
    · exact Nat.zero_le _
    · exact Nat.le_refl _
  · exact Nat.le_refl _
theorem write_cache (D : DiskS) (a : Int) (s : Bytes) : (D.write a s).2.cache.length ≤ D.cache.length + 1 := by
  unfold DiskS.write
  split
  · exact Nat.le_succ _
  · split
    · exact Nat.le_succ _
    · have := step_cache { D with cache := D.cache ++ [(a.toNat, s)] }
      simpa using this
theorem flush_cache (D : DiskS) : (D.flush).2.cache.length ≤ D.cache.length := by
  unfold DiskS.flush
  split
  · exact Nat.le_refl _
  · simp only
    split
    · exact Nat.zero_le _
    · exact step_cache D
theorem write_kept_len (D : DiskS) (a : Int) (s : Bytes) : (D.write a s).2.kept.length = D.kept.length := by
  unfold DiskS.write
  split
  · rfl
  · split
    · rfl
    · exact step_kept_len _
theorem flush_kept_len (D : DiskS) : (D.flush).2.kept.length = D.kept.length := by
  unfold DiskS.flush
  split
  · rfl
  · simp only
    split
    · simp only [keepAll_len]; exact step_kept_len D
    · exact step_kept_len D

theorem put_spec : ∀ (ss : List Bytes) (D : DiskS) (a : Nat), D.Ok → (∀ s ∈ ss, s.length = 64) → D.cache.length + ss.length ≤ 1099511627776 →
    (D.put a ss).2.Ok ∧ (D.put a ss).2.kept.length = D.kept.length ∧ (D.put a ss).2.cache.length ≤ D.cache.length + ss.length := by
  intro ss
  induction ss with
  | nil => intro D a h _ _; exact ⟨h, rfl, Nat.le_refl _⟩
  | cons s ss ih =>
    intro D a h hs hc
    simp only [List.length_cons] at hc
    have hw := h.write (by omega) a (hs s (.head _))
    have hcw := write_cache D a s
    have hk := write_kept_len D a s
    simp only [put, List.length_cons]
    split
    · obtain ⟨h1, h2, h3⟩ := ih (D.write a s).2 (a + 1) hw (fun x hx => hs x (.tail _ hx)) (by omega)
      exact ⟨h1, by omega, by omega⟩
    · exact ⟨hw, hk, by omega⟩
end DiskS

namespace Eng
attribute [local irreducible] Ops Segs Run Spec

theorem log_put (l d : Nat) (L : LogS) (a : Option Addr) (n c : Nat) (D : DiskS) (hok : D.Ok) (h2 : 2 ≤ D.kept.length) (hh : L.half ≤ 1) (k : Nat) (hk : k ≤ 1099511627776) (v : Value) (ss : List Bytes)
    (hc : D.cache.length + ss.length ≤ 1099511627776) (F : Hp) (hr : RdS F v ss) (hF : F l = some (.cells (lcells d L a n c).toArray 55 (0, 0))) :
    Spec Try.prog 30 [.pointer (some ⟨l, 0, none⟩), .int .i64 k, v].toArray F [DiskP d D] fun v H => v = .int .i64 (D.put (L.base D k) ss).1 ∧ H = [DiskP d (D.put (L.base D k) ss).2] := by
  refine Spec.enter (n := 42) Try.func30 ok_log_Log_put rfl (by simp) ?_
  unfold ec_log_Log_put
  simp only [argFr, Nat.reduceAdd]
  obtain ⟨oa, oc, rfl, hoc, h64, hr⟩ := hr
  have hsz := hok.size
  (repeat (first | (apply Ops.q; rfl; rfl) | (apply Ops.gyB; rfl; rfl) | (apply Ops.gnB; rfl; decide) | (apply Ops.add; rfl; rfl; (constructor <;> omega)) | (apply Ops.sub; rfl; rfl; (constructor <;> omega)) | (apply Ops.rem; rfl; rfl; omega; omega) | (apply Ops.quo; rfl; rfl; (constructor <;> omega); omega) | (apply Ops.ld; rfl; (first | exact m0 | exact m1 | exact m2 | exact m3 | exact m4 | exact m5 | exact m6); rfl) | (apply Ops.st0; rfl; rfl; rfl; rfl; (first | exact u0 | exact u1 | exact u2 | exact u3 | exact u4 | exact u5); focus (simp; done)) | refine Ops.nil ?_ | refine Segs.nil ?_ | (apply Segs.oneS; rfl) | refine Run.seq ?_ | refine Run.reg ?_ | refine Run.block ?_ | refine Run.blk ?_ | refine Run.skip ?_))
  refine Run.loopI (ι := Nat × DiskS) (fun x => ss.length - x.1) (fun x => x.1 ≤ ss.length ∧ x.2.Ok ∧ x.2.kept.length = D.kept.length ∧ x.2.cache.length ≤ D.cache.length + x.1 ∧ D.put (L.base D k) ss = x.2.put (L.base D k + x.1) (ss.drop x.1))
    (fun x => [(12, .int .i64 x.1), (11, .int .i64 ss.length), (10, .slice oa ss.length oc), (1, .int .i64 k), (0, .pointer (some ⟨l, 0, none⟩))]) (fun x => [DiskP d x.2])
    (0, D) ⟨Nat.zero_le _, hok, rfl, Nat.le_refl _, rfl⟩ (.cons rfl (.cons rfl (.cons rfl (.cons rfl (.cons rfl .nil))))) (fun _ h => h) ?_
  rintro ⟨i, D'⟩ ⟨hi, hok', hkl, hcl, hput⟩ ih
  dsimp only at hi hok' hkl hcl hput ih ⊢
  unfold ec_log_Log_put_L0
  (repeat (first | (apply Ops.q; rfl; rfl) | (apply Ops.gyB; rfl; rfl) | (apply Ops.gnB; rfl; decide) | (apply Ops.add; rfl; rfl; (constructor <;> omega)) | (apply Ops.sub; rfl; rfl; (constructor <;> omega)) | (apply Ops.rem; rfl; rfl; omega; omega) | (apply Ops.quo; rfl; rfl; (constructor <;> omega); omega) | (apply Ops.ld; rfl; (first | exact m0 | exact m1 | exact m2 | exact m3 | exact m4 | exact m5 | exact m6); rfl) | (apply Ops.st0; rfl; rfl; rfl; rfl; (first | exact u0 | exact u1 | exact u2 | exact u3 | exact u4 | exact u5); focus (simp; done)) | refine Ops.nil ?_ | refine Segs.nil ?_ | (apply Segs.oneS; rfl) | refine Run.seq ?_ | refine Run.reg ?_ | refine Run.block ?_ | refine Run.blk ?_ | refine Run.skip ?_))
  refine Run.condD rfl (fun hlt => ?_) (fun hge => ?_)
  · have hlt' : i < ss.length := by omega
    rcases hr with hr | ⟨ob, o, La, T, fz, rfl, hFs, hl, hrd⟩
    · rw [hr] at hlt'; simp at hlt'
    have hel : ss[i]? = some ss[i] := List.getElem?_eq_getElem hlt'
    have hs := h64 _ (List.getElem_mem hlt')
    have hdrop : ss.drop i = ss[i] :: ss.drop (i + 1) := List.drop_eq_getElem_cons hlt'
    have hget : (La.drop (o + i * 64)).take 64 = bvs ss[i] := by
      have h1 := flat_get ss [] i _ (fun s hs => by rw [bvs_len, h64 s hs]) hel
      rw [List.append_nil, ← hrd, List.drop_take, List.drop_drop, List.take_take] at h1
      rw [← h1]; congr 1
      have := Nat.mul_le_mul_right 64 (show i + 1 ≤ ss.length by omega); omega
    have hlen : o + i * 64 + 64 ≤ La.length := by have := Nat.mul_le_mul_right 64 (show i + 1 ≤ ss.length by omega); omega
    generalize ss[i] = s at *
    (repeat (first | (apply Ops.q; rfl; rfl) | (apply Ops.gyB; rfl; rfl) | (apply Ops.gnB; rfl; decide) | (apply Ops.add; rfl; rfl; (constructor <;> omega)) | (apply Ops.sub; rfl; rfl; (constructor <;> omega)) | (apply Ops.rem; rfl; rfl; omega; omega) | (apply Ops.quo; rfl; rfl; (constructor <;> omega); omega) | (apply Ops.ld; rfl; (first | exact m0 | exact m1 | exact m2 | exact m3 | exact m4 | exact m5 | exact m6); rfl) | (apply Ops.st0; rfl; rfl; rfl; rfl; (first | exact u0 | exact u1 | exact u2 | exact u3 | exact u4 | exact u5); focus (simp; done)) | refine Ops.nil ?_ | refine Segs.nil ?_ | (apply Segs.oneS; rfl) | refine Run.seq ?_ | refine Run.reg ?_ | refine Run.block ?_ | refine Run.blk ?_ | refine Run.skip ?_))
    refine Ops.ixS rfl rfl ⟨by omega, by omega⟩ ?_
    simp only [Int.toNat_natCast]
    refine Ops.ldnF rfl hFs hlen ?_
    rw [hget]
    refine Ops.alloc fun b8 => ?_
    (repeat (first | (apply Ops.q; rfl; rfl) | (apply Ops.gyB; rfl; rfl) | (apply Ops.gnB; rfl; decide) | (apply Ops.add; rfl; rfl; (constructor <;> omega)) | (apply Ops.sub; rfl; rfl; (constructor <;> omega)) | (apply Ops.rem; rfl; rfl; omega; omega) | (apply Ops.quo; rfl; rfl; (constructor <;> omega); omega) | (apply Ops.ld; rfl; (first | exact m0 | exact m1 | exact m2 | exact m3 | exact m4 | exact m5 | exact m6); rfl) | (apply Ops.st0; rfl; rfl; rfl; rfl; (first | exact u0 | exact u1 | exact u2 | exact u3 | exact u4 | exact u5); focus (simp; done)) | refine Ops.nil ?_ | refine Segs.nil ?_ | (apply Segs.oneS; rfl) | refine Run.seq ?_ | refine Run.reg ?_ | refine Run.block ?_ | refine Run.blk ?_ | refine Run.skip ?_))
    refine Ops.stS hs rfl rfl u0 ?_
    (repeat (first | (apply Ops.q; rfl; rfl) | (apply Ops.gyB; rfl; rfl) | (apply Ops.gnB; rfl; decide) | (apply Ops.add; rfl; rfl; (constructor <;> omega)) | (apply Ops.sub; rfl; rfl; (constructor <;> omega)) | (apply Ops.rem; rfl; rfl; omega; omega) | (apply Ops.quo; rfl; rfl; (constructor <;> omega); omega) | (apply Ops.ld; rfl; (first | exact m0 | exact m1 | exact m2 | exact m3 | exact m4 | exact m5 | exact m6); rfl) | (apply Ops.st0; rfl; rfl; rfl; rfl; (first | exact u0 | exact u1 | exact u2 | exact u3 | exact u4 | exact u5); focus (simp; done)) | refine Ops.nil ?_ | refine Segs.nil ?_ | (apply Segs.oneS; rfl) | refine Run.seq ?_ | refine Run.reg ?_ | refine Run.block ?_ | refine Run.blk ?_ | refine Run.skip ?_))
    refine Segs.lend [_] (.cons s0 .nil) fun F1 x1 k1 => ?_
    (repeat (first | (apply Ops.q; rfl; rfl) | (apply Ops.gyB; rfl; rfl) | (apply Ops.gnB; rfl; decide) | (apply Ops.add; rfl; rfl; (constructor <;> omega)) | (apply Ops.sub; rfl; rfl; (constructor <;> omega)) | (apply Ops.rem; rfl; rfl; omega; omega) | (apply Ops.quo; rfl; rfl; (constructor <;> omega); omega) | (apply Ops.ld; rfl; (first | exact m0 | exact m1 | exact m2 | exact m3 | exact m4 | exact m5 | exact m6); rfl) | (apply Ops.st0; rfl; rfl; rfl; rfl; (first | exact u0 | exact u1 | exact u2 | exact u3 | exact u4 | exact u5); focus (simp; done)) | refine Ops.nil ?_ | refine Segs.nil ?_ | (apply Segs.oneS; rfl) | refine Run.seq ?_ | refine Run.reg ?_ | refine Run.block ?_ | refine Run.blk ?_ | refine Run.skip ?_))
    refine Ops.ldF rfl (x1 _ _ hF) rfl ?_
    refine Ops.ldF rfl (x1 _ _ hF) rfl ?_
    refine Ops.ldF rfl (x1 _ _ hF) rfl ?_
    refine Ops.ldnF rfl (k1 _ _ m0) (by rw [bvs_len, hs]; exact Nat.le_refl 64) ?_
    rw [List.drop_zero, List.take_of_length_le (show (bvs s).length ≤ 64 by rw [bvs_len, hs]; exact Nat.le_refl 64)]
    refine Ops.call1 rfl (.cons s0 .nil) (fun F' _ _ => log_half d D' (by omega) F') ?_
    rintro v G ⟨rfl, rfl⟩
    simp only [List.cons_append, List.nil_append]
    have hm : L.half * D'.hf ≤ D'.hf := by have := Nat.mul_le_mul_right D'.hf hh; omega
    have hmi : (L.half : Int) * (D'.hf : Int) = ((L.half * D'.hf : Nat) : Int) := by push_cast; rfl
    have hf : D'.hf * 2 + 2 ≤ D'.kept.length := by unfold DiskS.hf; omega
    have hhf : D'.hf = D.hf := by unfold DiskS.hf; rw [hkl]
    refine Ops.mul rfl rfl ⟨by omega, by omega⟩ ?_
    (repeat (first | (apply Ops.q; rfl; rfl) | (apply Ops.gyB; rfl; rfl) | (apply Ops.gnB; rfl; decide) | (apply Ops.add; rfl; rfl; (constructor <;> omega)) | (apply Ops.sub; rfl; rfl; (constructor <;> omega)) | (apply Ops.rem; rfl; rfl; omega; omega) | (apply Ops.quo; rfl; rfl; (constructor <;> omega); omega) | (apply Ops.ld; rfl; (first | exact m0 | exact m1 | exact m2 | exact m3 | exact m4 | exact m5 | exact m6); rfl) | (apply Ops.st0; rfl; rfl; rfl; rfl; (first | exact u0 | exact u1 | exact u2 | exact u3 | exact u4 | exact u5); focus (simp; done)) | refine Ops.nil ?_ | refine Segs.nil ?_ | (apply Segs.oneS; rfl) | refine Run.seq ?_ | refine Run.reg ?_ | refine Run.block ?_ | refine Run.blk ?_ | refine Run.skip ?_))
    have hb : (2 : Int) + (L.half : Int) * (D'.hf : Int) + (k : Int) + (i : Int) = ((L.base D k + i : Nat) : Int) := by unfold LogS.base; rw [hhf]; push_cast; rfl
    rw [hb]
    refine Ops.call1 rfl (.cons s1 .nil) (fun F' _ _ => disk_Write d D' (by omega) _ s hs F') ?_
    rintro v G ⟨rfl, rfl⟩
    simp only [List.cons_append, List.nil_append]
    rw [hdrop] at hput
    simp only [DiskS.put] at hput
    have hw := hok'.write (by omega) (L.base D k + i : Nat) hs
    have hcw := DiskS.write_cache D' (L.base D k + i : Nat) s
    have hkw := DiskS.write_kept_len D' (L.base D k + i : Nat) s
    (repeat (first | (apply Ops.q; rfl; rfl) | (apply Ops.gyB; rfl; rfl) | (apply Ops.gnB; rfl; decide) | (apply Ops.add; rfl; rfl; (constructor <;> omega)) | (apply Ops.sub; rfl; rfl; (constructor <;> omega)) | (apply Ops.rem; rfl; rfl; omega; omega) | (apply Ops.quo; rfl; rfl; (constructor <;> omega); omega) | (apply Ops.ld; rfl; (first | exact m0 | exact m1 | exact m2 | exact m3 | exact m4 | exact m5 | exact m6); rfl) | (apply Ops.st0; rfl; rfl; rfl; rfl; (first | exact u0 | exact u1 | exact u2 | exact u3 | exact u4 | exact u5); focus (simp; done)) | refine Ops.nil ?_ | refine Segs.nil ?_ | (apply Segs.oneS; rfl) | refine Run.seq ?_ | refine Run.reg ?_ | refine Run.block ?_ | refine Run.blk ?_ | refine Run.skip ?_))
    generalize D'.write (L.base D k + i : Nat) s = r at *
    by_cases he : r.1 = 0
    · rw [if_pos he] at hput
      refine Run.condF (by simp [he, get, look]) ?_
      (repeat (first | (apply Ops.q; rfl; rfl) | (apply Ops.gyB; rfl; rfl) | (apply Ops.gnB; rfl; decide) | (apply Ops.add; rfl; rfl; (constructor <;> omega)) | (apply Ops.sub; rfl; rfl; (constructor <;> omega)) | (apply Ops.rem; rfl; rfl; omega; omega) | (apply Ops.quo; rfl; rfl; (constructor <;> omega); omega) | (apply Ops.ld; rfl; (first | exact m0 | exact m1 | exact m2 | exact m3 | exact m4 | exact m5 | exact m6); rfl) | (apply Ops.st0; rfl; rfl; rfl; rfl; (first | exact u0 | exact u1 | exact u2 | exact u3 | exact u4 | exact u5); focus (simp; done)) | refine Ops.nil ?_ | refine Segs.nil ?_ | (apply Segs.oneS; rfl) | refine Run.seq ?_ | refine Run.reg ?_ | refine Run.block ?_ | refine Run.blk ?_ | refine Run.skip ?_))
      refine Run.lp (Run.again (ih (i + 1, r.2) (by dsimp only; omega) ⟨by dsimp only; omega, hw, by dsimp only; omega, by dsimp only; omega, by dsimp only; rw [hput, Nat.add_assoc]⟩) (.cons rfl (.cons rfl (.cons rfl (.cons rfl (.cons rfl .nil))))) (fun h q => take_sub (.cons s0 .nil) h q))
    · rw [if_neg he] at hput
      refine Run.condT (by simp [he, get, look]) ?_
      (repeat (first | (apply Ops.q; rfl; rfl) | (apply Ops.gyB; rfl; rfl) | (apply Ops.gnB; rfl; decide) | (apply Ops.add; rfl; rfl; (constructor <;> omega)) | (apply Ops.sub; rfl; rfl; (constructor <;> omega)) | (apply Ops.rem; rfl; rfl; omega; omega) | (apply Ops.quo; rfl; rfl; (constructor <;> omega); omega) | (apply Ops.ld; rfl; (first | exact m0 | exact m1 | exact m2 | exact m3 | exact m4 | exact m5 | exact m6); rfl) | (apply Ops.st0; rfl; rfl; rfl; rfl; (first | exact u0 | exact u1 | exact u2 | exact u3 | exact u4 | exact u5); focus (simp; done)) | refine Ops.nil ?_ | refine Segs.nil ?_ | (apply Segs.oneS; rfl) | refine Run.seq ?_ | refine Run.reg ?_ | refine Run.block ?_ | refine Run.blk ?_ | refine Run.skip ?_))
      exact Run.ret1 Try.func30 rfl rfl (fun h q => take_sub (.cons s0 .nil) h q) ⟨by rw [hput], by rw [hput]⟩
  · have : i = ss.length := by omega
    subst this
    rw [List.drop_length] at hput
    simp only [DiskS.put] at hput
    refine Run.exit rfl ?_
    (repeat (first | (apply Ops.q; rfl; rfl) | (apply Ops.gyB; rfl; rfl) | (apply Ops.gnB; rfl; decide) | (apply Ops.add; rfl; rfl; (constructor <;> omega)) | (apply Ops.sub; rfl; rfl; (constructor <;> omega)) | (apply Ops.rem; rfl; rfl; omega; omega) | (apply Ops.quo; rfl; rfl; (constructor <;> omega); omega) | (apply Ops.ld; rfl; (first | exact m0 | exact m1 | exact m2 | exact m3 | exact m4 | exact m5 | exact m6); rfl) | (apply Ops.st0; rfl; rfl; rfl; rfl; (first | exact u0 | exact u1 | exact u2 | exact u3 | exact u4 | exact u5); focus (simp; done)) | refine Ops.nil ?_ | refine Segs.nil ?_ | (apply Segs.oneS; rfl) | refine Run.seq ?_ | refine Run.reg ?_ | refine Run.block ?_ | refine Run.blk ?_ | refine Run.skip ?_))
    exact Run.ret1 Try.func30 rfl rfl (fun h q => q) ⟨by rw [hput], by rw [hput]⟩
end Eng
end Go.Proofs.Ytbhlolmglieehaa
