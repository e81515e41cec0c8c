/- The log: a record's sectors. -/
import Derived.Test.YtbhlolmglieehaaLog3
set_option linter.unusedSimpArgs false
set_option linter.unusedVariables false
namespace Go.Proofs.Ytbhlolmglieehaa

open Eng in
theorem zerosL_len (k : Nat) : zerosL Eng.zl64_intu80 k = List.replicate (k * 64) (Value.int .u8 0) := by
  induction k with
  | zero => simp [zerosL]
  | succ k ih =>
    simp only [zerosL, List.replicate_succ, List.flatten_cons] at ih ⊢
    rw [ih, Nat.add_mul, Nat.one_mul, Nat.add_comm (k * 64) 64, ← List.replicate_append_replicate]
    rfl

theorem splice_at {A Z vs : List Value} {n : Nat} (hA : A.length = n) : (A ++ Z).take n ++ vs ++ (A ++ Z).drop (n + vs.length) = A ++ (vs ++ Z.drop vs.length) := by
  rw [← hA, List.take_left, List.drop_append, List.append_assoc]
  have : A.drop (A.length + vs.length) = [] := List.drop_eq_nil_of_le (by omega)
  rw [this, List.nil_append, Nat.add_sub_cancel_left]

theorem take_min (bs : Bytes) (k : Nat) : bs.take (Nat.min bs.length k) = bs.take k := by
  rcases Nat.le_total bs.length k with h | h
  · rw [show Nat.min bs.length k = bs.length from Nat.min_eq_left h, List.take_length, List.take_of_length_le h]
  · rw [show Nat.min bs.length k = k from Nat.min_eq_right h]

theorem drop_min (bs : Bytes) (k : Nat) : bs.drop (Nat.min bs.length k) = bs.drop k := by
  rcases Nat.le_total bs.length k with h | h
  · rw [show Nat.min bs.length k = bs.length from Nat.min_eq_left h, List.drop_length, List.drop_eq_nil_of_le h]
  · rw [show Nat.min bs.length k = k from Nat.min_eq_right h]

theorem bvs_rep (n : Nat) : List.replicate n (Value.int .u8 0) = bvs (List.replicate n 0) := by
  simp [bvs, bv]

namespace Eng
theorem Spec.openS {P : Program} {f : FuncId} {args : Array Value} {F : Hp} {Pre : List HA} {n s : Nat} {T : TypeId} {xs : List Value}
    (q : Spec P f args F Pre (fun v H => ∃ a c, v = .slice a n c ∧ H = [OwnS a n c s T xs])) : Spec P f args F Pre (fun v H => ∃ a c, v = .slice a n c ∧ OwnI a n c s T xs H) := by
  intro w h p k
  refine (q w h p k).mono ?_
  rintro e w' ⟨v, H', h', he, ⟨a, c, hv, rfl⟩, q', k', kp⟩
  obtain ⟨x, y, sp, ⟨G, hG, qG⟩, _⟩ := q'
  exact ⟨v, G, h', he, ⟨a, c, hv, hG⟩, seps_up qG sp.symm, k', kp⟩

theorem seps_left {A B : List HA} : ∀ h, seps (A ++ B) h → seps (A ++ []) h := by
  intro h q
  obtain ⟨x, y, sp, qx, _⟩ := seps_append.1 q
  rw [List.append_nil]; exact seps_up qx sp.symm

theorem le4_rdB {F : Hp} {b n : Nat} {T : TypeId} {fz : Nat × Nat} (hF : F b = some (.cells (bvs (le4 n)).toArray T fz)) : RdB F (.slice (some ⟨b, 0, none⟩) 4 4) (le4 n) :=
  rdB_at hF 4 (o := 0) (Nat.le_refl 4) (.inl rfl)

theorem RdB.drop {F : Hp} {b o n c c' k : Nat} {a' : Option Addr} {bs : Bytes} (h : RdB F (.slice (some ⟨b, o, none⟩) n c) bs) (hk : k ≤ bs.length) (ha : a' = some ⟨b, o + k * 1, none⟩ ∨ n - k = 0) : RdB F (.slice a' (n - k) c') (bs.drop k) := by
  obtain ⟨a, c0, he, h⟩ := h
  cases he
  refine ⟨a', c', by rw [List.length_drop], ?_⟩
  by_cases h0 : bs.length - k = 0
  · exact .inl (List.drop_eq_nil_of_le (by omega))
  rcases h with h | ⟨b', o', L, T, fz, he, hF, hl, ht⟩
  · subst h; simp at h0
  · cases he
    rcases ha with ha | ha
    · refine .inr ⟨b, o + k * 1, L, T, fz, ha, hF, by rw [List.length_drop]; omega, ?_⟩
      have := congrArg (List.drop k) ht
      rw [List.drop_take, List.drop_drop] at this
      rw [List.length_drop, Nat.mul_one, this]; simp [bvs, List.map_drop]
    · omega

theorem OwnI.cap {a : Option Addr} {n c s : Nat} {T : TypeId} {xs : List Value} {G : List HA} (h : OwnI a n c s T xs G) : n ≤ c := by
  obtain ⟨_, ⟨_, h1, h2, _⟩ | ⟨_, _, _, h, _⟩⟩ := h
  · omega
  · exact h

theorem sect_step {A Z : List Value} {all : Bytes} {i : Nat} {m : Value} (hA : A.length = i * 64) (hm : m = bv (if i = 0 then 2 else 3)) :
    (A ++ m :: (List.replicate 63 (Value.int .u8 0) ++ Z)).take (i * 64 + 1) ++ bvs ((all.drop (i * 63)).take 63) ++ (A ++ m :: (List.replicate 63 (Value.int .u8 0) ++ Z)).drop (i * 64 + 1 + (bvs ((all.drop (i * 63)).take 63)).length) = A ++ bvs (sectOf all i) ++ Z := by
  have e : A ++ m :: (List.replicate 63 (Value.int .u8 0) ++ Z) = (A ++ [m]) ++ (List.replicate 63 (Value.int .u8 0) ++ Z) := by simp
  have hk : (bvs ((all.drop (i * 63)).take 63)).length ≤ 63 := by rw [bvs_len]; exact List.length_take_le _ _
  rw [e, splice_at (by simp [hA]), List.drop_append_of_le_length (by simpa using hk), List.drop_replicate]
  unfold sectOf
  rw [bvs_len, bvs_rep]
  simp only [bvs, List.map_cons, List.map_append, List.append_assoc, List.cons_append, List.nil_append]
  rw [hm]

attribute [local irreducible] Ops Segs Run Spec

set_option maxHeartbeats 400000 in
theorem log_cut (l d : Nat) (L : LogS) (a : Option Addr) (n c : Nat) (he : L.epoch < 4294967296) (seq : Nat) (hs : seq < 4294967296) (v : Value) (b : Bytes) (hb : b.length ≤ 1048576) (F : Hp) (hr : RdB F v b)
    (hF : F l = some (.cells (lcells d L a n c).toArray 55 (0, 0))) :
    Spec Try.prog 28 [.pointer (some ⟨l, 0, none⟩), .int .i64 seq, v].toArray F [] fun v H =>
      ∃ o, v = .slice (some ⟨o, 0, none⟩) (sectorsOf b.length) (sectorsOf b.length) ∧ H = [.pt o (.cells ((cutOf seq L.epoch b).flatMap bvs).toArray 57 (0, 0))] := by
  have hr' := hr
  obtain ⟨oa, oc, rfl, _⟩ := hr'
  refine Spec.enter (n := 68) Try.func28 ok_log_Log_cut rfl (by simp) ?_
  unfold ec_log_Log_cut
  simp only [argFr, Nat.reduceAdd]
  (repeat (first | (apply Ops.q; rfl; rfl) | (apply Ops.gyB; rfl; rfl) | (apply Ops.gnB; rfl; decide) | (apply Ops.add; rfl; rfl; (constructor <;> omega)) | (apply Ops.sub; rfl; rfl; (constructor <;> omega)) | (apply Ops.rem; rfl; rfl; omega; omega) | (apply Ops.quo; rfl; rfl; (constructor <;> omega); omega) | (apply Ops.ld; rfl; (first | exact m0 | exact m1 | exact m2 | exact m3 | exact m4 | exact m5 | exact m6); rfl) | (apply Ops.st0; rfl; rfl; rfl; rfl; (first | exact u0 | exact u1 | exact u2 | exact u3 | exact u4 | exact u5); focus (simp; done)) | refine Ops.nil ?_ | refine Segs.nil ?_ | (apply Segs.oneS; rfl) | refine Run.seq ?_ | refine Run.reg ?_ | refine Run.block ?_ | refine Run.blk ?_ | refine Run.skip ?_))
  refine Segs.lend [] .nil fun F1 x1 k1 => ?_
  (repeat (first | (apply Ops.q; rfl; rfl) | (apply Ops.gyB; rfl; rfl) | (apply Ops.gnB; rfl; decide) | (apply Ops.add; rfl; rfl; (constructor <;> omega)) | (apply Ops.sub; rfl; rfl; (constructor <;> omega)) | (apply Ops.rem; rfl; rfl; omega; omega) | (apply Ops.quo; rfl; rfl; (constructor <;> omega); omega) | (apply Ops.ld; rfl; (first | exact m0 | exact m1 | exact m2 | exact m3 | exact m4 | exact m5 | exact m6); rfl) | (apply Ops.st0; rfl; rfl; rfl; rfl; (first | exact u0 | exact u1 | exact u2 | exact u3 | exact u4 | exact u5); focus (simp; done)) | refine Ops.nil ?_ | refine Segs.nil ?_ | (apply Segs.oneS; rfl) | refine Run.seq ?_ | refine Run.reg ?_ | refine Run.block ?_ | refine Run.blk ?_ | refine Run.skip ?_))
  refine Ops.ldF rfl (x1 _ _ hF) rfl ?_
  refine Ops.call1 rfl .nil (fun F' _ _ => rec_Num seq hs F') ?_
  rintro v1 G ⟨b1, rfl, rfl⟩
  simp only [List.cons_append, List.nil_append]
  refine Ops.nil (Segs.oneS rfl ?_)
  refine Ops.call1 rfl .nil (fun F' _ _ => rec_Num L.epoch he F') ?_
  rintro v1 G ⟨b2, rfl, rfl⟩
  simp only [List.cons_append, List.nil_append]
  (repeat (first | (apply Ops.q; rfl; rfl) | (apply Ops.gyB; rfl; rfl) | (apply Ops.gnB; rfl; decide) | (apply Ops.add; rfl; rfl; (constructor <;> omega)) | (apply Ops.sub; rfl; rfl; (constructor <;> omega)) | (apply Ops.rem; rfl; rfl; omega; omega) | (apply Ops.quo; rfl; rfl; (constructor <;> omega); omega) | (apply Ops.ld; rfl; (first | exact m0 | exact m1 | exact m2 | exact m3 | exact m4 | exact m5 | exact m6); rfl) | (apply Ops.st0; rfl; rfl; rfl; rfl; (first | exact u0 | exact u1 | exact u2 | exact u3 | exact u4 | exact u5); focus (simp; done)) | refine Ops.nil ?_ | refine Segs.nil ?_ | (apply Segs.oneS; rfl) | refine Run.seq ?_ | refine Run.reg ?_ | refine Run.block ?_ | refine Run.blk ?_ | refine Run.skip ?_))
  refine Ops.lit [.slice (some ⟨b1, 0, none⟩) 4 4, .slice (some ⟨b2, 0, none⟩) 4 4] rfl rfl fun b3 => ?_
  (repeat (first | (apply Ops.q; rfl; rfl) | (apply Ops.gyB; rfl; rfl) | (apply Ops.gnB; rfl; decide) | (apply Ops.add; rfl; rfl; (constructor <;> omega)) | (apply Ops.sub; rfl; rfl; (constructor <;> omega)) | (apply Ops.rem; rfl; rfl; omega; omega) | (apply Ops.quo; rfl; rfl; (constructor <;> omega); omega) | (apply Ops.ld; rfl; (first | exact m0 | exact m1 | exact m2 | exact m3 | exact m4 | exact m5 | exact m6); rfl) | (apply Ops.st0; rfl; rfl; rfl; rfl; (first | exact u0 | exact u1 | exact u2 | exact u3 | exact u4 | exact u5); focus (simp; done)) | refine Ops.nil ?_ | refine Segs.nil ?_ | (apply Segs.oneS; rfl) | refine Run.seq ?_ | refine Run.reg ?_ | refine Run.block ?_ | refine Run.blk ?_ | refine Run.skip ?_))
  refine Ops.call1 rfl .nil (fun F' e kn => (rec_Pack _ [le4 seq, le4 L.epoch] F' (rdBB_mk0 (kn _ _ m0) (.cons (le4_rdB (kn _ _ m2)) (.cons (le4_rdB (kn _ _ m1)) .nil)) rfl) (by simp) (by simp [le4_len])).openS) ?_
  rintro v1 G1 ⟨a1, c1, rfl, hG1⟩
  obtain ⟨hn1, hrow1⟩ := hG1.row
  refine Ops.nil (Segs.oneS rfl ?_)
  refine Ops.lit [_, _] rfl rfl fun b4 => ?_
  (repeat (first | (apply Ops.q; rfl; rfl) | (apply Ops.gyB; rfl; rfl) | (apply Ops.gnB; rfl; decide) | (apply Ops.add; rfl; rfl; (constructor <;> omega)) | (apply Ops.sub; rfl; rfl; (constructor <;> omega)) | (apply Ops.rem; rfl; rfl; omega; omega) | (apply Ops.quo; rfl; rfl; (constructor <;> omega); omega) | (apply Ops.ld; rfl; (first | exact m0 | exact m1 | exact m2 | exact m3 | exact m4 | exact m5 | exact m6); rfl) | (apply Ops.st0; rfl; rfl; rfl; rfl; (first | exact u0 | exact u1 | exact u2 | exact u3 | exact u4 | exact u5); focus (simp; done)) | refine Ops.nil ?_ | refine Segs.nil ?_ | (apply Segs.oneS; rfl) | refine Run.seq ?_ | refine Run.reg ?_ | refine Run.block ?_ | refine Run.blk ?_ | refine Run.skip ?_))
  refine Ops.call1 rfl .nil (fun F' e kn => crc_Of _ [_, b] F' (rdBB_mk0 (kn _ _ m0) (.cons (hrow1.rdB kn.tail.left) (.cons (hr.ext e) .nil)) rfl) (by simp) (by simp [le4_len]; omega)) ?_
  rintro v1 G ⟨rfl, rfl⟩
  have hsum : crcOf [[le4 seq, le4 L.epoch].flatten, b].flatten = crcOf ((le4 seq ++ le4 L.epoch) ++ b) := by simp
  rw [hsum]
  have hsl := crcOf_lt ((le4 seq ++ le4 L.epoch) ++ b)
  generalize hsume : crcOf ((le4 seq ++ le4 L.epoch) ++ b) = sum at *
  refine Ops.nil (Segs.oneS rfl ?_)
  (repeat (first | (apply Ops.q; rfl; rfl) | (apply Ops.gyB; rfl; rfl) | (apply Ops.gnB; rfl; decide) | (apply Ops.add; rfl; rfl; (constructor <;> omega)) | (apply Ops.sub; rfl; rfl; (constructor <;> omega)) | (apply Ops.rem; rfl; rfl; omega; omega) | (apply Ops.quo; rfl; rfl; (constructor <;> omega); omega)))
  refine Ops.nil (Segs.nil (Run.conseq (H' := []) (fun h _ => trivial) (Run.sub (l' := [(7, .int .u32 sum), (0, .pointer (some ⟨l, 0, none⟩)), (1, .int .i64 seq), (2, .slice oa b.length oc)]) (.cons rfl (.cons rfl (.cons rfl (.cons rfl .nil)))) ?_)))
  clear hG1 hn1 hrow1 hsum k1 x1
  clear G1 a1 c1 b1 b2 b3 b4 F1
  refine Run.seq (Run.reg (Segs.lend [] .nil fun F1 x1 k1 => ?_))
  (repeat (first | (apply Ops.q; rfl; rfl) | (apply Ops.gyB; rfl; rfl) | (apply Ops.gnB; rfl; decide) | (apply Ops.add; rfl; rfl; (constructor <;> omega)) | (apply Ops.sub; rfl; rfl; (constructor <;> omega)) | (apply Ops.rem; rfl; rfl; omega; omega) | (apply Ops.quo; rfl; rfl; (constructor <;> omega); omega) | (apply Ops.ld; rfl; (first | exact m0 | exact m1 | exact m2 | exact m3 | exact m4 | exact m5 | exact m6); rfl) | (apply Ops.st0; rfl; rfl; rfl; rfl; (first | exact u0 | exact u1 | exact u2 | exact u3 | exact u4 | exact u5); focus (simp; done)) | refine Ops.nil ?_ | refine Segs.nil ?_ | (apply Segs.oneS; rfl) | refine Run.seq ?_ | refine Run.reg ?_ | refine Run.block ?_ | refine Run.blk ?_ | refine Run.skip ?_))
  refine Ops.pE (v' := .int .i64 sum) rfl (by rw [wrap_i64 (by omega) (by omega)]) ?_
  (repeat (first | (apply Ops.q; rfl; rfl) | (apply Ops.gyB; rfl; rfl) | (apply Ops.gnB; rfl; decide) | (apply Ops.add; rfl; rfl; (constructor <;> omega)) | (apply Ops.sub; rfl; rfl; (constructor <;> omega)) | (apply Ops.rem; rfl; rfl; omega; omega) | (apply Ops.quo; rfl; rfl; (constructor <;> omega); omega) | (apply Ops.ld; rfl; (first | exact m0 | exact m1 | exact m2 | exact m3 | exact m4 | exact m5 | exact m6); rfl) | (apply Ops.st0; rfl; rfl; rfl; rfl; (first | exact u0 | exact u1 | exact u2 | exact u3 | exact u4 | exact u5); focus (simp; done)) | refine Ops.nil ?_ | refine Segs.nil ?_ | (apply Segs.oneS; rfl) | refine Run.seq ?_ | refine Run.reg ?_ | refine Run.block ?_ | refine Run.blk ?_ | refine Run.skip ?_))
  refine Ops.ldF rfl (x1 _ _ hF) rfl ?_
  refine Ops.call1 rfl .nil (fun F' _ _ => rec_Num b.length (by omega) F') ?_
  rintro v1 G ⟨b1, rfl, rfl⟩
  simp only [List.cons_append, List.nil_append]
  refine Ops.call1 rfl .nil (fun F' _ _ => rec_Num seq hs F') ?_
  rintro v1 G ⟨b2, rfl, rfl⟩
  simp only [List.cons_append, List.nil_append]
  refine Ops.nil (Segs.oneS rfl ?_)
  refine Ops.call1 rfl .nil (fun F' _ _ => rec_Num L.epoch he F') ?_
  rintro v1 G ⟨b3, rfl, rfl⟩
  simp only [List.cons_append, List.nil_append]
  refine Ops.nil (Segs.oneS rfl ?_)
  refine Ops.call1 rfl .nil (fun F' _ _ => rec_Num sum hsl F') ?_
  rintro v1 G ⟨b4, rfl, rfl⟩
  simp only [List.cons_append, List.nil_append]
  refine Ops.nil (Segs.oneS rfl ?_)
  refine Ops.lit [.slice (some ⟨b1, 0, none⟩) 4 4, .slice (some ⟨b2, 0, none⟩) 4 4, .slice (some ⟨b3, 0, none⟩) 4 4, .slice (some ⟨b4, 0, none⟩) 4 4, _] rfl rfl fun b5 => ?_
  refine Ops.nil (Segs.oneS rfl ?_)
  refine Ops.call1 rfl .nil (fun F' e kn => (rec_Pack _ [le4 b.length, le4 seq, le4 L.epoch, le4 sum, b] F' (rdBB_mk0 (kn _ _ m0) (.cons (le4_rdB (kn _ _ m4)) (.cons (le4_rdB (kn _ _ m3)) (.cons (le4_rdB (kn _ _ m2)) (.cons (le4_rdB (kn _ _ m1)) (.cons (hr.ext e) .nil))))) rfl) (by simp) (by simp [le4_len]; omega)).openS) ?_
  rintro v1 G1 ⟨a1, c1, rfl, hG1⟩
  have hall : [le4 b.length, le4 seq, le4 L.epoch, le4 sum, b].flatten = hdrOf seq L.epoch b := by simp only [List.flatten_cons, List.flatten_nil, List.append_nil, hdrOf, hsume]
  rw [hall] at hG1 ⊢
  have hallL := hdrOf_len seq L.epoch b
  obtain ⟨_, hrow1⟩ := hG1.row
  have hcutE : cutOf seq L.epoch b = (List.range (sectorsOf b.length)).map (sectOf (hdrOf seq L.epoch b)) := rfl
  generalize hdrOf seq L.epoch b = all at *
  refine Ops.nil (Segs.oneS rfl ?_)
  (repeat (first | (apply Ops.q; rfl; rfl) | (apply Ops.gyB; rfl; rfl) | (apply Ops.gnB; rfl; decide) | (apply Ops.add; rfl; rfl; (constructor <;> omega)) | (apply Ops.sub; rfl; rfl; (constructor <;> omega)) | (apply Ops.rem; rfl; rfl; omega; omega) | (apply Ops.quo; rfl; rfl; (constructor <;> omega); omega)))
  refine Ops.nil (Segs.nil ?_)
  refine Run.conseq seps_left (Run.lendD G1 (take_app G1 []) fun F2 x2 k2 => ?_)
  have hrall := hrow1.rdB k2
  have hcap := hG1.cap
  clear hrow1 hG1 k2 k1 hall
  have hF2 := hF
  (repeat (first | (apply Ops.q; rfl; rfl) | (apply Ops.gyB; rfl; rfl) | (apply Ops.gnB; rfl; decide) | (apply Ops.add; rfl; rfl; (constructor <;> omega)) | (apply Ops.sub; rfl; rfl; (constructor <;> omega)) | (apply Ops.rem; rfl; rfl; omega; omega) | (apply Ops.quo; rfl; rfl; (constructor <;> omega); omega) | (apply Ops.ld; rfl; (first | exact m0 | exact m1 | exact m2 | exact m3 | exact m4 | exact m5 | exact m6); rfl) | (apply Ops.st0; rfl; rfl; rfl; rfl; (first | exact u0 | exact u1 | exact u2 | exact u3 | exact u4 | exact u5); focus (simp; done)) | refine Ops.nil ?_ | refine Segs.nil ?_ | (apply Segs.oneS; rfl) | refine Run.seq ?_ | refine Run.reg ?_ | refine Run.block ?_ | refine Run.blk ?_ | refine Run.skip ?_))
  refine Ops.call1 rfl .nil (fun F' _ _ => log_sectors b.length (by omega) F') ?_
  rintro v1 G ⟨rfl, rfl⟩
  simp only [List.cons_append, List.nil_append]
  have hsn : sectorsOf b.length * 63 ≤ b.length + 78 ∧ b.length + 16 ≤ sectorsOf b.length * 63 := by unfold sectorsOf; omega
  generalize sectorsOf b.length = ns at *
  refine Ops.mks rfl rfl (by omega) (by omega) (by omega) fun b6 => ?_
  simp only [Int.toNat_natCast, zerosL_len]
  (repeat (first | (apply Ops.q; rfl; rfl) | (apply Ops.gyB; rfl; rfl) | (apply Ops.gnB; rfl; decide) | (apply Ops.add; rfl; rfl; (constructor <;> omega)) | (apply Ops.sub; rfl; rfl; (constructor <;> omega)) | (apply Ops.rem; rfl; rfl; omega; omega) | (apply Ops.quo; rfl; rfl; (constructor <;> omega); omega) | (apply Ops.ld; rfl; (first | exact m0 | exact m1 | exact m2 | exact m3 | exact m4 | exact m5 | exact m6); rfl) | (apply Ops.st0; rfl; rfl; rfl; rfl; (first | exact u0 | exact u1 | exact u2 | exact u3 | exact u4 | exact u5); focus (simp; done)) | refine Ops.nil ?_ | refine Segs.nil ?_ | (apply Segs.oneS; rfl) | refine Run.seq ?_ | refine Run.reg ?_ | refine Run.block ?_ | refine Run.blk ?_ | refine Run.skip ?_))
  refine Run.loopI (ι := Nat × Option Addr × Nat) (fun x => ns - x.1) (fun x => x.1 ≤ ns ∧ RdB F2 (.slice x.2.1 (all.drop (x.1 * 63)).length x.2.2) (all.drop (x.1 * 63)) ∧ (all.drop (x.1 * 63)).length ≤ x.2.2)
    (fun x => [(45, .int .i64 x.1), (44, .int .i64 ns), (9, .slice (some ⟨b6, 0, none⟩) ns ns), (8, .slice x.2.1 (all.drop (x.1 * 63)).length x.2.2)])
    (fun x => [.pt b6 (.cells (((List.range x.1).map (sectOf all)).flatMap bvs ++ List.replicate ((ns - x.1) * 64) (Value.int .u8 0)).toArray 57 (0, 0))])
    (0, a1, c1) ⟨Nat.zero_le _, by simpa using hrall, by simpa using hcap⟩ (.cons rfl (.cons rfl (.cons rfl (.cons rfl .nil)))) (fun _ h => by simpa using h) ?_
  rintro ⟨i, a2, c2⟩ ⟨hi, hrd, hcp⟩ ih
  dsimp only at hi hrd hcp ih ⊢
  unfold ec_log_Log_cut_L0
  (repeat (first | (apply Ops.q; rfl; rfl) | (apply Ops.gyB; rfl; rfl) | (apply Ops.gnB; rfl; decide) | (apply Ops.add; rfl; rfl; (constructor <;> omega)) | (apply Ops.sub; rfl; rfl; (constructor <;> omega)) | (apply Ops.rem; rfl; rfl; omega; omega) | (apply Ops.quo; rfl; rfl; (constructor <;> omega); omega) | (apply Ops.ld; rfl; (first | exact m0 | exact m1 | exact m2 | exact m3 | exact m4 | exact m5 | exact m6); rfl) | (apply Ops.st0; rfl; rfl; rfl; rfl; (first | exact u0 | exact u1 | exact u2 | exact u3 | exact u4 | exact u5); focus (simp; done)) | refine Ops.nil ?_ | refine Segs.nil ?_ | (apply Segs.oneS; rfl) | refine Run.seq ?_ | refine Run.reg ?_ | refine Run.block ?_ | refine Run.blk ?_ | refine Run.skip ?_))
  refine Run.condD rfl (fun hlt => ?_) (fun hge => ?_)
  · have hlt' : i < ns := by omega
    have hA : (((List.range i).map (sectOf all)).flatMap bvs).length = i * 64 := by
      rw [flat_len (s := 64)]
      · simp
      · intro s hs; obtain ⟨j, _, rfl⟩ := List.mem_map.1 hs; rw [bvs_len, sectOf_len]
    have hnext : ((List.range (i + 1)).map (sectOf all)).flatMap bvs = ((List.range i).map (sectOf all)).flatMap bvs ++ bvs (sectOf all i) := by
      rw [List.range_succ, List.map_append, List.flatMap_append]; simp
    have hz : List.replicate ((ns - i) * 64) (Value.int .u8 0) = Value.int .u8 0 :: (List.replicate 63 (Value.int .u8 0) ++ List.replicate ((ns - (i + 1)) * 64) (Value.int .u8 0)) := by
      rw [show (ns - i) * 64 = 1 + (63 + (ns - (i + 1)) * 64) by omega, ← List.replicate_append_replicate, ← List.replicate_append_replicate]; rfl
    have ih' := fun a c => ih (i + 1, a, c)
    dsimp only at ih'
    rw [hnext] at ih'
    rw [hz]
    generalize ((List.range i).map (sectOf all)).flatMap bvs = A at *
    generalize List.replicate ((ns - (i + 1)) * 64) (Value.int .u8 0) = Z at *
    clear ih hnext hz
    (repeat (first | (apply Ops.q; rfl; rfl) | (apply Ops.gyB; rfl; rfl) | (apply Ops.gnB; rfl; decide) | (apply Ops.add; rfl; rfl; (constructor <;> omega)) | (apply Ops.sub; rfl; rfl; (constructor <;> omega)) | (apply Ops.rem; rfl; rfl; omega; omega) | (apply Ops.quo; rfl; rfl; (constructor <;> omega); omega) | (apply Ops.ld; rfl; (first | exact m0 | exact m1 | exact m2 | exact m3 | exact m4 | exact m5 | exact m6); rfl) | (apply Ops.st0; rfl; rfl; rfl; rfl; (first | exact u0 | exact u1 | exact u2 | exact u3 | exact u4 | exact u5); focus (simp; done)) | refine Ops.nil ?_ | refine Segs.nil ?_ | (apply Segs.oneS; rfl) | refine Run.seq ?_ | refine Run.reg ?_ | refine Run.block ?_ | refine Run.blk ?_ | refine Run.skip ?_))
    refine Ops.ixS rfl rfl ⟨by omega, by omega⟩ ?_
    simp only [Int.toNat_natCast, Nat.zero_add]
    refine Ops.ixA rfl rfl ⟨by omega, by omega⟩ ?_
    have hset : ∀ x y : Value, (A ++ x :: (List.replicate 63 (Value.int .u8 0) ++ Z)).set (i * 64 + Int.toNat 0 * 1) y = A ++ y :: (List.replicate 63 (Value.int .u8 0) ++ Z) := by
      intro x y; rw [show i * 64 + Int.toNat 0 * 1 = A.length by rw [hA]; rfl, List.set_append_right _ _ (Nat.le_refl _), Nat.sub_self]; rfl
    have hlen : i * 64 + Int.toNat 0 * 1 < (A ++ Value.int .u8 3 :: (List.replicate 63 (Value.int .u8 0) ++ Z)).length := by
      rw [List.length_append, hA]; simp only [List.length_cons]; show i * 64 + 0 < _; omega
    refine Ops.st0 rfl rfl rfl rfl u0 (by rw [List.length_append, hA]; simp only [List.length_cons]; show i * 64 + 0 < _; omega) ?_
    rw [hset]
    have hne : i * 63 < all.length := by omega
    obtain ⟨ob, oo, rfl⟩ : ∃ ob oo, a2 = some ⟨ob, oo, none⟩ := by
      obtain ⟨_, _, he, h⟩ := hrd
      cases he
      rcases h with h | ⟨b', o', L, T, fz, he, _⟩
      · exact absurd (congrArg List.length h) (by simp; omega)
      · exact ⟨b', o', he⟩
    (repeat (first | (apply Ops.q; rfl; rfl) | (apply Ops.gyB; rfl; rfl) | (apply Ops.gnB; rfl; decide) | (apply Ops.add; rfl; rfl; (constructor <;> omega)) | (apply Ops.sub; rfl; rfl; (constructor <;> omega)) | (apply Ops.rem; rfl; rfl; omega; omega) | (apply Ops.quo; rfl; rfl; (constructor <;> omega); omega) | (apply Ops.ld; rfl; (first | exact m0 | exact m1 | exact m2 | exact m3 | exact m4 | exact m5 | exact m6); rfl) | (apply Ops.st0; rfl; rfl; rfl; rfl; (first | exact u0 | exact u1 | exact u2 | exact u3 | exact u4 | exact u5); focus (simp; done)) | refine Ops.nil ?_ | refine Segs.nil ?_ | (apply Segs.oneS; rfl) | refine Run.seq ?_ | refine Run.reg ?_ | refine Run.block ?_ | refine Run.blk ?_ | refine Run.skip ?_))
    refine Run.condD rfl (fun hi0 => ?_) (fun hi0 => ?_)
    · have hi0' : i = 0 := by omega
      have hmk : Value.int .u8 2 = bv (if i = 0 then 2 else 3) := by rw [if_pos hi0']; rfl
      (repeat (first | (apply Ops.q; rfl; rfl) | (apply Ops.gyB; rfl; rfl) | (apply Ops.gnB; rfl; decide) | (apply Ops.add; rfl; rfl; (constructor <;> omega)) | (apply Ops.sub; rfl; rfl; (constructor <;> omega)) | (apply Ops.rem; rfl; rfl; omega; omega) | (apply Ops.quo; rfl; rfl; (constructor <;> omega); omega) | (apply Ops.ld; rfl; (first | exact m0 | exact m1 | exact m2 | exact m3 | exact m4 | exact m5 | exact m6); rfl) | (apply Ops.st0; rfl; rfl; rfl; rfl; (first | exact u0 | exact u1 | exact u2 | exact u3 | exact u4 | exact u5); focus (simp; done)) | refine Ops.nil ?_ | refine Segs.nil ?_ | (apply Segs.oneS; rfl) | refine Run.seq ?_ | refine Run.reg ?_ | refine Run.block ?_ | refine Run.blk ?_ | refine Run.skip ?_))
      refine Ops.ixS rfl rfl ⟨by omega, by omega⟩ ?_
      simp only [Int.toNat_natCast, Nat.zero_add]
      refine Ops.ixA rfl rfl ⟨by omega, by omega⟩ ?_
      refine Ops.st0 rfl rfl rfl rfl u0 (by rw [List.length_append, hA]; simp only [List.length_cons]; show i * 64 + 0 < _; omega) ?_
      rw [hset]
      (repeat (first | (apply Ops.q; rfl; rfl) | (apply Ops.gyB; rfl; rfl) | (apply Ops.gnB; rfl; decide) | (apply Ops.add; rfl; rfl; (constructor <;> omega)) | (apply Ops.sub; rfl; rfl; (constructor <;> omega)) | (apply Ops.rem; rfl; rfl; omega; omega) | (apply Ops.quo; rfl; rfl; (constructor <;> omega); omega) | (apply Ops.ld; rfl; (first | exact m0 | exact m1 | exact m2 | exact m3 | exact m4 | exact m5 | exact m6); rfl) | (apply Ops.st0; rfl; rfl; rfl; rfl; (first | exact u0 | exact u1 | exact u2 | exact u3 | exact u4 | exact u5); focus (simp; done)) | refine Ops.nil ?_ | refine Segs.nil ?_ | (apply Segs.oneS; rfl) | refine Run.seq ?_ | refine Run.reg ?_ | refine Run.block ?_ | refine Run.blk ?_ | refine Run.skip ?_))
      refine Ops.ixS rfl rfl ⟨by omega, by omega⟩ ?_
      simp only [Int.toNat_natCast, Nat.zero_add]
      refine Ops.slA (l1 := 1) (h1 := 64) rfl rfl rfl (by omega) (by omega) fun a3 ha3 => ?_
      have ha3' : a3 = some ⟨b6, i * 64 + 1, none⟩ := by
        rcases ha3 with h | h
        · exact h
        · omega
      subst ha3'
      (repeat (first | (apply Ops.q; rfl; rfl) | (apply Ops.gyB; rfl; rfl) | (apply Ops.gnB; rfl; decide) | (apply Ops.add; rfl; rfl; (constructor <;> omega)) | (apply Ops.sub; rfl; rfl; (constructor <;> omega)) | (apply Ops.rem; rfl; rfl; omega; omega) | (apply Ops.quo; rfl; rfl; (constructor <;> omega); omega) | (apply Ops.ld; rfl; (first | exact m0 | exact m1 | exact m2 | exact m3 | exact m4 | exact m5 | exact m6); rfl) | (apply Ops.st0; rfl; rfl; rfl; rfl; (first | exact u0 | exact u1 | exact u2 | exact u3 | exact u4 | exact u5); focus (simp; done)) | refine Ops.nil ?_ | refine Segs.nil ?_ | (apply Segs.oneS; rfl) | refine Run.seq ?_ | refine Run.reg ?_ | refine Run.block ?_ | refine Run.blk ?_ | refine Run.skip ?_))
      refine Ops.cpy (s := 1) (vs := bvs ((all.drop (i * 63)).take 63)) rfl rfl rfl (fun w h q f => ?_) (bvs_one _) u0 ?_ ?_
      · have := hrd.showsN (m := Nat.min (all.drop (i * 63)).length 63) (Nat.min_le_left _ _) w h q f
        rwa [take_min] at this
      · have hk : (bvs ((all.drop (i * 63)).take 63)).length ≤ 63 := by rw [bvs_len]; exact List.length_take_le _ _
        rw [List.length_append, hA, List.length_cons, List.length_append, List.length_replicate]; omega
      rw [sect_step hA hmk]
      refine Ops.slS (l1 := Nat.min (all.drop (i * 63)).length 63) (h1 := (all.drop (i * 63)).length) rfl rfl rfl (Nat.min_le_left _ _) hcp fun a4 ha4 => ?_
      have hrd4 := hrd.drop (c' := c2 - Nat.min (all.drop (i * 63)).length 63) (Nat.min_le_left _ _) ha4
      rw [drop_min, List.drop_drop, show i * 63 + 63 = (i + 1) * 63 by omega] at hrd4
      have hlen4 : (all.drop (i * 63)).length - Nat.min (all.drop (i * 63)).length 63 = (all.drop ((i + 1) * 63)).length := by
        simp only [List.length_drop, Nat.min_def]; split <;> omega
      rw [hlen4] at hrd4 ⊢
      (repeat (first | (apply Ops.q; rfl; rfl) | (apply Ops.gyB; rfl; rfl) | (apply Ops.gnB; rfl; decide) | (apply Ops.add; rfl; rfl; (constructor <;> omega)) | (apply Ops.sub; rfl; rfl; (constructor <;> omega)) | (apply Ops.rem; rfl; rfl; omega; omega) | (apply Ops.quo; rfl; rfl; (constructor <;> omega); omega) | (apply Ops.ld; rfl; (first | exact m0 | exact m1 | exact m2 | exact m3 | exact m4 | exact m5 | exact m6); rfl) | (apply Ops.st0; rfl; rfl; rfl; rfl; (first | exact u0 | exact u1 | exact u2 | exact u3 | exact u4 | exact u5); focus (simp; done)) | refine Ops.nil ?_ | refine Segs.nil ?_ | (apply Segs.oneS; rfl) | refine Run.seq ?_ | refine Run.reg ?_ | refine Run.block ?_ | refine Run.blk ?_ | refine Run.skip ?_))
      exact Run.lp (Run.again (ih' a4 _ (by omega) ⟨by omega, hrd4, by omega⟩) (.cons rfl (.cons rfl (.cons rfl (.cons rfl .nil)))) (fun _ h => h))
    · have hi0' : ¬ i = 0 := by omega
      have hmk : Value.int .u8 3 = bv (if i = 0 then 2 else 3) := by rw [if_neg hi0']; rfl
      (repeat (first | (apply Ops.q; rfl; rfl) | (apply Ops.gyB; rfl; rfl) | (apply Ops.gnB; rfl; decide) | (apply Ops.add; rfl; rfl; (constructor <;> omega)) | (apply Ops.sub; rfl; rfl; (constructor <;> omega)) | (apply Ops.rem; rfl; rfl; omega; omega) | (apply Ops.quo; rfl; rfl; (constructor <;> omega); omega) | (apply Ops.ld; rfl; (first | exact m0 | exact m1 | exact m2 | exact m3 | exact m4 | exact m5 | exact m6); rfl) | (apply Ops.st0; rfl; rfl; rfl; rfl; (first | exact u0 | exact u1 | exact u2 | exact u3 | exact u4 | exact u5); focus (simp; done)) | refine Ops.nil ?_ | refine Segs.nil ?_ | (apply Segs.oneS; rfl) | refine Run.seq ?_ | refine Run.reg ?_ | refine Run.block ?_ | refine Run.blk ?_ | refine Run.skip ?_))
      refine Ops.ixS rfl rfl ⟨by omega, by omega⟩ ?_
      simp only [Int.toNat_natCast, Nat.zero_add]
      refine Ops.slA (l1 := 1) (h1 := 64) rfl rfl rfl (by omega) (by omega) fun a3 ha3 => ?_
      have ha3' : a3 = some ⟨b6, i * 64 + 1, none⟩ := by
        rcases ha3 with h | h
        · exact h
        · omega
      subst ha3'
      (repeat (first | (apply Ops.q; rfl; rfl) | (apply Ops.gyB; rfl; rfl) | (apply Ops.gnB; rfl; decide) | (apply Ops.add; rfl; rfl; (constructor <;> omega)) | (apply Ops.sub; rfl; rfl; (constructor <;> omega)) | (apply Ops.rem; rfl; rfl; omega; omega) | (apply Ops.quo; rfl; rfl; (constructor <;> omega); omega) | (apply Ops.ld; rfl; (first | exact m0 | exact m1 | exact m2 | exact m3 | exact m4 | exact m5 | exact m6); rfl) | (apply Ops.st0; rfl; rfl; rfl; rfl; (first | exact u0 | exact u1 | exact u2 | exact u3 | exact u4 | exact u5); focus (simp; done)) | refine Ops.nil ?_ | refine Segs.nil ?_ | (apply Segs.oneS; rfl) | refine Run.seq ?_ | refine Run.reg ?_ | refine Run.block ?_ | refine Run.blk ?_ | refine Run.skip ?_))
      refine Ops.cpy (s := 1) (vs := bvs ((all.drop (i * 63)).take 63)) rfl rfl rfl (fun w h q f => ?_) (bvs_one _) u0 ?_ ?_
      · have := hrd.showsN (m := Nat.min (all.drop (i * 63)).length 63) (Nat.min_le_left _ _) w h q f
        rwa [take_min] at this
      · have hk : (bvs ((all.drop (i * 63)).take 63)).length ≤ 63 := by rw [bvs_len]; exact List.length_take_le _ _
        rw [List.length_append, hA, List.length_cons, List.length_append, List.length_replicate]; omega
      rw [sect_step hA hmk]
      refine Ops.slS (l1 := Nat.min (all.drop (i * 63)).length 63) (h1 := (all.drop (i * 63)).length) rfl rfl rfl (Nat.min_le_left _ _) hcp fun a4 ha4 => ?_
      have hrd4 := hrd.drop (c' := c2 - Nat.min (all.drop (i * 63)).length 63) (Nat.min_le_left _ _) ha4
      rw [drop_min, List.drop_drop, show i * 63 + 63 = (i + 1) * 63 by omega] at hrd4
      have hlen4 : (all.drop (i * 63)).length - Nat.min (all.drop (i * 63)).length 63 = (all.drop ((i + 1) * 63)).length := by
        simp only [List.length_drop, Nat.min_def]; split <;> omega
      rw [hlen4] at hrd4 ⊢
      (repeat (first | (apply Ops.q; rfl; rfl) | (apply Ops.gyB; rfl; rfl) | (apply Ops.gnB; rfl; decide) | (apply Ops.add; rfl; rfl; (constructor <;> omega)) | (apply Ops.sub; rfl; rfl; (constructor <;> omega)) | (apply Ops.rem; rfl; rfl; omega; omega) | (apply Ops.quo; rfl; rfl; (constructor <;> omega); omega) | (apply Ops.ld; rfl; (first | exact m0 | exact m1 | exact m2 | exact m3 | exact m4 | exact m5 | exact m6); rfl) | (apply Ops.st0; rfl; rfl; rfl; rfl; (first | exact u0 | exact u1 | exact u2 | exact u3 | exact u4 | exact u5); focus (simp; done)) | refine Ops.nil ?_ | refine Segs.nil ?_ | (apply Segs.oneS; rfl) | refine Run.seq ?_ | refine Run.reg ?_ | refine Run.block ?_ | refine Run.blk ?_ | refine Run.skip ?_))
      exact Run.lp (Run.again (ih' a4 _ (by omega) ⟨by omega, hrd4, by omega⟩) (.cons rfl (.cons rfl (.cons rfl (.cons rfl .nil)))) (fun _ h => h))
  · have : i = ns := by omega
    subst this
    refine Run.exit rfl ?_
    (repeat (first | (apply Ops.q; rfl; rfl) | (apply Ops.gyB; rfl; rfl) | (apply Ops.gnB; rfl; decide) | (apply Ops.add; rfl; rfl; (constructor <;> omega)) | (apply Ops.sub; rfl; rfl; (constructor <;> omega)) | (apply Ops.rem; rfl; rfl; omega; omega) | (apply Ops.quo; rfl; rfl; (constructor <;> omega); omega) | (apply Ops.ld; rfl; (first | exact m0 | exact m1 | exact m2 | exact m3 | exact m4 | exact m5 | exact m6); rfl) | (apply Ops.st0; rfl; rfl; rfl; rfl; (first | exact u0 | exact u1 | exact u2 | exact u3 | exact u4 | exact u5); focus (simp; done)) | refine Ops.nil ?_ | refine Segs.nil ?_ | (apply Segs.oneS; rfl) | refine Run.seq ?_ | refine Run.reg ?_ | refine Run.block ?_ | refine Run.blk ?_ | refine Run.skip ?_))
    refine Run.ret1 Try.func28 rfl rfl (fun h q => q) ⟨b6, rfl, ?_⟩
    rw [hcutE]; simp
end Eng
end Go.Proofs.Ytbhlolmglieehaa
