/- The log: a record is kept; the disk is looked through. -/
import Derived.Test.YtbhlolmglieehaaLog4
set_option linter.unusedSimpArgs false
set_option linter.unusedVariables false
namespace Go.Proofs.Ytbhlolmglieehaa

theorem hf_eq {D D' : DiskS} (h : D'.kept.length = D.kept.length) : D'.hf = D.hf := by unfold DiskS.hf; rw [h]

namespace Eng
attribute [local irreducible] Ops Segs Run Spec

theorem RdS.ext {F F' : Hp} (e : Ext F F') {v : Value} {ss : List Bytes} (h : RdS F v ss) : RdS F' v ss := by
  obtain ⟨a, c, hv, hc, h64, h⟩ := h
  refine ⟨a, c, hv, hc, h64, h.imp id ?_⟩
  rintro ⟨b, o, L, T, fz, ha, hF, r⟩
  exact ⟨b, o, L, T, fz, ha, e _ _ hF, r⟩

theorem RdS.tail {F : Hp} {b o n c : Nat} {a' : Option Addr} {ss : List Bytes} {c' : Nat} (h : RdS F (.slice (some ⟨b, o, none⟩) n c) ss) (h0 : 1 ≤ ss.length) (hc : c' = c - 1) (ha : a' = some ⟨b, o + 1 * 64, none⟩ ∨ n - 1 = 0) : RdS F (.slice a' (n - 1) c') ss.tail := by
  obtain ⟨a, c0, he, hcap, h64, h⟩ := h
  cases he
  refine ⟨a', c', by simp, by simp; omega, fun s hs => h64 s (List.mem_of_mem_tail hs), ?_⟩
  by_cases h1 : ss.length - 1 = 0
  · exact .inl (List.length_eq_zero_iff.1 (by simpa using h1))
  rcases h with h | ⟨b', o', L, T, fz, he, hF, hl, ht⟩
  · subst h; simp at h0
  · cases he
    rcases ha with ha | ha
    · refine .inr ⟨b, o + 1 * 64, L, T, fz, ha, hF, by simp; omega, ?_⟩
      cases ss with
      | nil => simp at h0
      | cons s ss =>
        have := congrArg (List.drop 64) ht
        rw [List.drop_take, List.drop_drop, List.flatMap_cons, List.drop_append] at this
        have hs : (bvs s).length = 64 := by rw [bvs_len, h64 s (.head _)]
        rw [List.drop_eq_nil_of_le (show (bvs s).length ≤ 64 by omega), hs, Nat.sub_self, List.drop_zero, List.nil_append] at this
        simp only [List.tail_cons, Nat.one_mul]
        rw [← this]; simp only [List.length_cons]; congr 1; omega
    · exact absurd ha h1

theorem RdS.front {F : Hp} {a : Option Addr} {n c : Nat} {ss : List Bytes} {a' : Option Addr} (h : RdS F (.slice a n c) ss) (h0 : 1 ≤ ss.length) {n' c' : Nat} (hn : n' = 1) (hc : 1 ≤ c') (ha : a' = a) : RdS F (.slice a' n' c') (ss.take 1) := by
  obtain ⟨a0, c0, he, hcap, h64, h⟩ := h
  cases he
  subst hn; subst ha
  have hl1 : (ss.take 1).length = 1 := by simp; omega
  refine ⟨_, c', by rw [hl1], by rw [hl1]; exact hc, fun s hs => h64 s (List.mem_of_mem_take hs), ?_⟩
  rcases h with h | ⟨b', o', L, T, fz, he, hF, hl, ht⟩
  · subst h; simp at h0
  · refine .inr ⟨b', o', L, T, fz, he, hF, by rw [hl1]; omega, ?_⟩
    rw [hl1]
    cases ss with
    | nil => simp at h0
    | cons s ss =>
      have := congrArg (List.take 64) ht
      have hs : (bvs s).length = 64 := by rw [bvs_len, h64 s (.head _)]
      rw [List.take_take, List.flatMap_cons, List.take_append_of_le_length (by omega), List.take_of_length_le (l := bvs s) (by omega), Nat.min_eq_left (by simp only [List.length_cons]; omega)] at this
      simpa using this

theorem log_keep (l d : Nat) (L : LogS) (a : Option Addr) (n c : Nat) (D : DiskS) (hok : D.Ok) (h2 : 2 ≤ D.kept.length) (hh : L.half ≤ 1) (hp : L.pos ≤ 1000000) (b o cp : Nat) (ss : List Bytes) (h1 : 1 ≤ ss.length)
    (hc : D.cache.length + ss.length ≤ 1099511627776) (F : Hp) (hr : RdS F (.slice (some ⟨b, o, none⟩) ss.length cp) ss) (hF : F l = some (.cells (lcells d L a n c).toArray 55 (0, 0))) :
    Spec Try.prog 27 [.pointer (some ⟨l, 0, none⟩), .slice (some ⟨b, o, none⟩) ss.length cp].toArray F [DiskP d D] fun v H => v = .int .i64 (L.keep D ss).1 ∧ H = [DiskP d (L.keep D ss).2] := by
  have hcp : ss.length ≤ cp := by obtain ⟨_, _, he, h, _⟩ := hr; cases he; exact h
  have h64 : ∀ s ∈ ss, s.length = 64 := by obtain ⟨_, _, he, _, h, _⟩ := hr; exact h
  have hlt1 : (ss.take 1).length = 1 := by simp; omega
  have hsz := hok.size
  refine Spec.enter (n := 47) Try.func27 ok_log_Log_keep rfl (by simp) ?_
  unfold ec_log_Log_keep
  simp only [argFr, Nat.reduceAdd]
  (repeat (first | (apply Ops.q; rfl; rfl) | (apply Ops.gyB; rfl; rfl) | (apply Ops.gnB; rfl; decide) | (apply Ops.add; rfl; rfl; (constructor <;> omega)) | (apply Ops.sub; rfl; rfl; (constructor <;> omega)) | (apply Ops.rem; rfl; rfl; omega; omega) | (apply Ops.quo; rfl; rfl; (constructor <;> omega); omega) | (apply Ops.ld; rfl; (first | exact m0 | exact m1 | exact m2 | exact m3 | exact m4 | exact m5 | exact m6); rfl) | (apply Ops.st0; rfl; rfl; rfl; rfl; (first | exact u0 | exact u1 | exact u2 | exact u3 | exact u4 | exact u5); focus (simp; done)) | refine Ops.nil ?_ | refine Segs.nil ?_ | (apply Segs.oneS; rfl) | refine Run.seq ?_ | refine Run.reg ?_ | refine Run.block ?_ | refine Run.blk ?_ | refine Run.skip ?_))
  refine Run.meet (ι := DiskS) (fun D' => D'.Ok ∧ D'.kept.length = D.kept.length ∧ D'.cache.length + 1 ≤ 1099511627776 ∧ L.keep D ss = andThen (D'.put (L.base D' L.pos) (ss.take 1)) DiskS.flush)
    (fun _ => [(0, .pointer (some ⟨l, 0, none⟩)), (1, .slice (some ⟨b, o, none⟩) ss.length cp)]) (fun D' => [DiskP d D']) ?_ ?_
  · rintro D' ⟨hok', hkl, hcl, hK⟩
    rw [hK]
    (repeat (first | (apply Ops.q; rfl; rfl) | (apply Ops.gyB; rfl; rfl) | (apply Ops.gnB; rfl; decide) | (apply Ops.add; rfl; rfl; (constructor <;> omega)) | (apply Ops.sub; rfl; rfl; (constructor <;> omega)) | (apply Ops.rem; rfl; rfl; omega; omega) | (apply Ops.quo; rfl; rfl; (constructor <;> omega); omega) | (apply Ops.ld; rfl; (first | exact m0 | exact m1 | exact m2 | exact m3 | exact m4 | exact m5 | exact m6); rfl) | (apply Ops.st0; rfl; rfl; rfl; rfl; (first | exact u0 | exact u1 | exact u2 | exact u3 | exact u4 | exact u5); focus (simp; done)) | refine Ops.nil ?_ | refine Segs.nil ?_ | (apply Segs.oneS; rfl) | refine Run.seq ?_ | refine Run.reg ?_ | refine Run.block ?_ | refine Run.blk ?_ | refine Run.skip ?_))
    have hsz' := hok'.size
    refine Ops.slS (l1 := 0) (h1 := 1) rfl rfl rfl (by omega) (by omega) fun a1 ha1 => ?_
    have ha2 : a1 = some ⟨b, o, none⟩ := by
      rcases ha1 with h | h
      · simpa using h
      · omega
    have hr1 : RdS F (.slice a1 1 (cp - 0)) (ss.take 1) := hr.front h1 rfl (by omega) ha2
    simp only [Nat.sub_zero] at hr1 ⊢
    refine Ops.ldF rfl hF rfl ?_
    refine Ops.nil (Segs.oneS rfl ?_)
    (repeat (first | (apply Ops.q; rfl; rfl) | (apply Ops.gyB; rfl; rfl) | (apply Ops.gnB; rfl; decide) | (apply Ops.add; rfl; rfl; (constructor <;> omega)) | (apply Ops.sub; rfl; rfl; (constructor <;> omega)) | (apply Ops.rem; rfl; rfl; omega; omega) | (apply Ops.quo; rfl; rfl; (constructor <;> omega); omega)))
    refine Ops.call1 rfl (.cons s0 .nil) (fun F' e _ => log_put l d L a n c D' hok' (by omega) hh L.pos (by omega) _ (ss.take 1) (by omega) F' (hr1.ext e) (e _ _ hF)) ?_
    rintro v G ⟨rfl, rfl⟩
    simp only [List.cons_append, List.nil_append]
    have hp2 := DiskS.put_spec (ss.take 1) D' (L.base D' L.pos) hok' (fun s hs => h64 s (List.mem_of_mem_take hs)) (by omega)
    generalize D'.put (L.base D' L.pos) (ss.take 1) = r at *
    unfold andThen
    (repeat (first | (apply Ops.q; rfl; rfl) | (apply Ops.gyB; rfl; rfl) | (apply Ops.gnB; rfl; decide) | (apply Ops.add; rfl; rfl; (constructor <;> omega)) | (apply Ops.sub; rfl; rfl; (constructor <;> omega)) | (apply Ops.rem; rfl; rfl; omega; omega) | (apply Ops.quo; rfl; rfl; (constructor <;> omega); omega) | (apply Ops.ld; rfl; (first | exact m0 | exact m1 | exact m2 | exact m3 | exact m4 | exact m5 | exact m6); rfl) | (apply Ops.st0; rfl; rfl; rfl; rfl; (first | exact u0 | exact u1 | exact u2 | exact u3 | exact u4 | exact u5); focus (simp; done)) | refine Ops.nil ?_ | refine Segs.nil ?_ | (apply Segs.oneS; rfl) | refine Run.seq ?_ | refine Run.reg ?_ | refine Run.block ?_ | refine Run.blk ?_ | refine Run.skip ?_))
    by_cases he : r.1 = 0
    · rw [if_pos he]
      refine Run.condF (by simp [he, get, look]) ?_
      (repeat (first | (apply Ops.q; rfl; rfl) | (apply Ops.gyB; rfl; rfl) | (apply Ops.gnB; rfl; decide) | (apply Ops.add; rfl; rfl; (constructor <;> omega)) | (apply Ops.sub; rfl; rfl; (constructor <;> omega)) | (apply Ops.rem; rfl; rfl; omega; omega) | (apply Ops.quo; rfl; rfl; (constructor <;> omega); omega) | (apply Ops.ld; rfl; (first | exact m0 | exact m1 | exact m2 | exact m3 | exact m4 | exact m5 | exact m6); rfl) | (apply Ops.st0; rfl; rfl; rfl; rfl; (first | exact u0 | exact u1 | exact u2 | exact u3 | exact u4 | exact u5); focus (simp; done)) | refine Ops.nil ?_ | refine Segs.nil ?_ | (apply Segs.oneS; rfl) | refine Run.seq ?_ | refine Run.reg ?_ | refine Run.block ?_ | refine Run.blk ?_ | refine Run.skip ?_))
      refine Ops.ldF rfl hF rfl ?_
      refine Ops.call1 rfl (.cons s0 .nil) (fun F' e _ => disk_Flush d r.2 F') ?_
      rintro v G ⟨rfl, rfl⟩
      simp only [List.cons_append, List.nil_append]
      (repeat (first | (apply Ops.q; rfl; rfl) | (apply Ops.gyB; rfl; rfl) | (apply Ops.gnB; rfl; decide) | (apply Ops.add; rfl; rfl; (constructor <;> omega)) | (apply Ops.sub; rfl; rfl; (constructor <;> omega)) | (apply Ops.rem; rfl; rfl; omega; omega) | (apply Ops.quo; rfl; rfl; (constructor <;> omega); omega) | (apply Ops.ld; rfl; (first | exact m0 | exact m1 | exact m2 | exact m3 | exact m4 | exact m5 | exact m6); rfl) | (apply Ops.st0; rfl; rfl; rfl; rfl; (first | exact u0 | exact u1 | exact u2 | exact u3 | exact u4 | exact u5); focus (simp; done)) | refine Ops.nil ?_ | refine Segs.nil ?_ | (apply Segs.oneS; rfl) | refine Run.seq ?_ | refine Run.reg ?_ | refine Run.block ?_ | refine Run.blk ?_ | refine Run.skip ?_))
      exact Run.ret1 Try.func27 rfl rfl (fun h q => q) ⟨rfl, rfl⟩
    · rw [if_neg he]
      refine Run.condT (by simp [he, get, look]) ?_
      (repeat (first | (apply Ops.q; rfl; rfl) | (apply Ops.gyB; rfl; rfl) | (apply Ops.gnB; rfl; decide) | (apply Ops.add; rfl; rfl; (constructor <;> omega)) | (apply Ops.sub; rfl; rfl; (constructor <;> omega)) | (apply Ops.rem; rfl; rfl; omega; omega) | (apply Ops.quo; rfl; rfl; (constructor <;> omega); omega) | (apply Ops.ld; rfl; (first | exact m0 | exact m1 | exact m2 | exact m3 | exact m4 | exact m5 | exact m6); rfl) | (apply Ops.st0; rfl; rfl; rfl; rfl; (first | exact u0 | exact u1 | exact u2 | exact u3 | exact u4 | exact u5); focus (simp; done)) | refine Ops.nil ?_ | refine Segs.nil ?_ | (apply Segs.oneS; rfl) | refine Run.seq ?_ | refine Run.reg ?_ | refine Run.block ?_ | refine Run.blk ?_ | refine Run.skip ?_))
      exact Run.ret1 Try.func27 rfl rfl (fun h q => q) ⟨rfl, rfl⟩
  · intro tail
    refine Run.condD rfl (fun hlt => ?_) (fun hge => ?_)
    · have hlt' : 1 < ss.length := by omega
      have hK : L.keep D ss = andThen (andThen (D.put (L.base D (L.pos + 1)) ss.tail) DiskS.flush) fun D => andThen (D.put (L.base D L.pos) (ss.take 1)) DiskS.flush := by unfold LogS.keep; rw [if_pos hlt']
      have hsz' := hok.size
      (repeat (first | (apply Ops.q; rfl; rfl) | (apply Ops.gyB; rfl; rfl) | (apply Ops.gnB; rfl; decide) | (apply Ops.add; rfl; rfl; (constructor <;> omega)) | (apply Ops.sub; rfl; rfl; (constructor <;> omega)) | (apply Ops.rem; rfl; rfl; omega; omega) | (apply Ops.quo; rfl; rfl; (constructor <;> omega); omega) | (apply Ops.ld; rfl; (first | exact m0 | exact m1 | exact m2 | exact m3 | exact m4 | exact m5 | exact m6); rfl) | (apply Ops.st0; rfl; rfl; rfl; rfl; (first | exact u0 | exact u1 | exact u2 | exact u3 | exact u4 | exact u5); focus (simp; done)) | refine Ops.nil ?_ | refine Segs.nil ?_ | (apply Segs.oneS; rfl) | refine Run.seq ?_ | refine Run.reg ?_ | refine Run.block ?_ | refine Run.blk ?_ | refine Run.skip ?_))
      refine Ops.slS (l1 := 1) (h1 := ss.length) rfl rfl rfl (by omega) (by omega) fun a1 ha1 => ?_
      have hr1 : RdS F (.slice a1 (ss.length - 1) (cp - 1)) ss.tail := hr.tail h1 rfl ha1
      refine Ops.ldF rfl hF rfl ?_
      refine Ops.nil (Segs.oneS rfl ?_)
      (repeat (first | (apply Ops.q; rfl; rfl) | (apply Ops.gyB; rfl; rfl) | (apply Ops.gnB; rfl; decide) | (apply Ops.add; rfl; rfl; (constructor <;> omega)) | (apply Ops.sub; rfl; rfl; (constructor <;> omega)) | (apply Ops.rem; rfl; rfl; omega; omega) | (apply Ops.quo; rfl; rfl; (constructor <;> omega); omega)))
      have hcast : (L.pos : Int) + 1 = ((L.pos + 1 : Nat) : Int) := by omega
      rw [hcast]
      refine Ops.call1 rfl (.cons s0 .nil) (fun F' e _ => log_put l d L a n c D hok (by omega) hh (L.pos + 1) (by omega) _ ss.tail (by simp; omega) F' (hr1.ext e) (e _ _ hF)) ?_
      rintro v G ⟨rfl, rfl⟩
      simp only [List.cons_append, List.nil_append]
      have hp2 := DiskS.put_spec ss.tail D (L.base D (L.pos + 1)) hok (fun s hs => h64 s (List.mem_of_mem_tail hs)) (by simp; omega)
      rw [List.length_tail] at hp2
      generalize D.put (L.base D (L.pos + 1)) ss.tail = r at *
      unfold andThen at hK
      (repeat (first | (apply Ops.q; rfl; rfl) | (apply Ops.gyB; rfl; rfl) | (apply Ops.gnB; rfl; decide) | (apply Ops.add; rfl; rfl; (constructor <;> omega)) | (apply Ops.sub; rfl; rfl; (constructor <;> omega)) | (apply Ops.rem; rfl; rfl; omega; omega) | (apply Ops.quo; rfl; rfl; (constructor <;> omega); omega) | (apply Ops.ld; rfl; (first | exact m0 | exact m1 | exact m2 | exact m3 | exact m4 | exact m5 | exact m6); rfl) | (apply Ops.st0; rfl; rfl; rfl; rfl; (first | exact u0 | exact u1 | exact u2 | exact u3 | exact u4 | exact u5); focus (simp; done)) | refine Ops.nil ?_ | refine Segs.nil ?_ | (apply Segs.oneS; rfl) | refine Run.seq ?_ | refine Run.reg ?_ | refine Run.block ?_ | refine Run.blk ?_ | refine Run.skip ?_))
      by_cases he : r.1 = 0
      · rw [if_pos he] at hK
        refine Run.condF (by simp [he, get, look]) ?_
        (repeat (first | (apply Ops.q; rfl; rfl) | (apply Ops.gyB; rfl; rfl) | (apply Ops.gnB; rfl; decide) | (apply Ops.add; rfl; rfl; (constructor <;> omega)) | (apply Ops.sub; rfl; rfl; (constructor <;> omega)) | (apply Ops.rem; rfl; rfl; omega; omega) | (apply Ops.quo; rfl; rfl; (constructor <;> omega); omega) | (apply Ops.ld; rfl; (first | exact m0 | exact m1 | exact m2 | exact m3 | exact m4 | exact m5 | exact m6); rfl) | (apply Ops.st0; rfl; rfl; rfl; rfl; (first | exact u0 | exact u1 | exact u2 | exact u3 | exact u4 | exact u5); focus (simp; done)) | refine Ops.nil ?_ | refine Segs.nil ?_ | (apply Segs.oneS; rfl) | refine Run.seq ?_ | refine Run.reg ?_ | refine Run.block ?_ | refine Run.blk ?_ | refine Run.skip ?_))
        refine Ops.ldF rfl hF rfl ?_
        refine Ops.call1 rfl (.cons s0 .nil) (fun F' e _ => disk_Flush d r.2 F') ?_
        rintro v G ⟨rfl, rfl⟩
        simp only [List.cons_append, List.nil_append]
        have hp3 := DiskS.flush_cache r.2
        have hp4 := DiskS.flush_kept_len r.2
        have hp5 := DiskS.Ok.flush hp2.1
        generalize r.2.flush = r2 at *
        (repeat (first | (apply Ops.q; rfl; rfl) | (apply Ops.gyB; rfl; rfl) | (apply Ops.gnB; rfl; decide) | (apply Ops.add; rfl; rfl; (constructor <;> omega)) | (apply Ops.sub; rfl; rfl; (constructor <;> omega)) | (apply Ops.rem; rfl; rfl; omega; omega) | (apply Ops.quo; rfl; rfl; (constructor <;> omega); omega) | (apply Ops.ld; rfl; (first | exact m0 | exact m1 | exact m2 | exact m3 | exact m4 | exact m5 | exact m6); rfl) | (apply Ops.st0; rfl; rfl; rfl; rfl; (first | exact u0 | exact u1 | exact u2 | exact u3 | exact u4 | exact u5); focus (simp; done)) | refine Ops.nil ?_ | refine Segs.nil ?_ | (apply Segs.oneS; rfl) | refine Run.seq ?_ | refine Run.reg ?_ | refine Run.block ?_ | refine Run.blk ?_ | refine Run.skip ?_))
        by_cases he2 : r2.1 = 0
        · rw [if_pos he2] at hK
          refine Run.condF (by simp [he2, get, look]) ?_
          refine Run.skip ?_
          refine Run.again (tail r2.2 ⟨hp5, by omega, by omega, ?_⟩) (.cons rfl (.cons rfl .nil)) (fun h q => q)
          rw [hK]; rfl
        · rw [if_neg he2] at hK
          refine Run.condT (by simp [he2, get, look]) ?_
          (repeat (first | (apply Ops.q; rfl; rfl) | (apply Ops.gyB; rfl; rfl) | (apply Ops.gnB; rfl; decide) | (apply Ops.add; rfl; rfl; (constructor <;> omega)) | (apply Ops.sub; rfl; rfl; (constructor <;> omega)) | (apply Ops.rem; rfl; rfl; omega; omega) | (apply Ops.quo; rfl; rfl; (constructor <;> omega); omega) | (apply Ops.ld; rfl; (first | exact m0 | exact m1 | exact m2 | exact m3 | exact m4 | exact m5 | exact m6); rfl) | (apply Ops.st0; rfl; rfl; rfl; rfl; (first | exact u0 | exact u1 | exact u2 | exact u3 | exact u4 | exact u5); focus (simp; done)) | refine Ops.nil ?_ | refine Segs.nil ?_ | (apply Segs.oneS; rfl) | refine Run.seq ?_ | refine Run.reg ?_ | refine Run.block ?_ | refine Run.blk ?_ | refine Run.skip ?_))
          exact Run.ret1 Try.func27 rfl rfl (fun h q => q) ⟨by rw [hK], by rw [hK]⟩
      · rw [if_neg he] at hK
        refine Run.condT (by simp [he, get, look]) ?_
        (repeat (first | (apply Ops.q; rfl; rfl) | (apply Ops.gyB; rfl; rfl) | (apply Ops.gnB; rfl; decide) | (apply Ops.add; rfl; rfl; (constructor <;> omega)) | (apply Ops.sub; rfl; rfl; (constructor <;> omega)) | (apply Ops.rem; rfl; rfl; omega; omega) | (apply Ops.quo; rfl; rfl; (constructor <;> omega); omega) | (apply Ops.ld; rfl; (first | exact m0 | exact m1 | exact m2 | exact m3 | exact m4 | exact m5 | exact m6); rfl) | (apply Ops.st0; rfl; rfl; rfl; rfl; (first | exact u0 | exact u1 | exact u2 | exact u3 | exact u4 | exact u5); focus (simp; done)) | refine Ops.nil ?_ | refine Segs.nil ?_ | (apply Segs.oneS; rfl) | refine Run.seq ?_ | refine Run.reg ?_ | refine Run.block ?_ | refine Run.blk ?_ | refine Run.skip ?_))
        exact Run.ret1 Try.func27 rfl rfl (fun h q => q) ⟨by rw [hK, if_neg he], by rw [hK, if_neg he]⟩
    · have hK : L.keep D ss = andThen (D.put (L.base D L.pos) (ss.take 1)) DiskS.flush := by
        unfold LogS.keep; rw [if_neg (by omega)]; unfold andThen; rw [if_pos rfl]
      refine Run.skip ?_
      exact Run.again (tail D ⟨hok, rfl, by omega, hK⟩) (.cons rfl (.cons rfl .nil)) (fun h q => q)
end Eng
end Go.Proofs.Ytbhlolmglieehaa
