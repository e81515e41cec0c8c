/- What was opened, opened again, is the same, and turns nothing. -/
import Derived.Test.YtbhlolmglieehaaXI
set_option linter.constructorNameAsVariable false
set_option linter.unusedSimpArgs false
set_option linter.unusedVariables false
namespace Go.Proofs.Ytbhlolmglieehaa
namespace Eng

theorem set_window {L : List Value} {o n j : Nat} {y : Bytes} {u : UInt8} (h : (L.drop o).take n = bvs y) : ((L.set (o + j) (bv u)).drop o).take n = bvs (y.set j u) := by
  rw [List.drop_set, if_neg (by omega), Nat.add_sub_cancel_left, List.take_set, h]
  unfold bvs
  rw [List.map_set]

theorem rows_shape {vs : List Value} {bss : List Bytes} {i : Nat} {v : Value} {b : Bytes} {H : List HA} (hv : vs[i]? = some v) (hb : bss[i]? = some b) : ∀ h, seps (RowsP vs bss :: H) h → ∃ a c, v = .slice a b.length c := by
  rintro h ⟨x, y, sp, ⟨G, hG, qG⟩, qr⟩
  obtain ⟨G1, Gi, G2, ⟨a, c, h1, _⟩, rfl, h3⟩ := hG.pull i v b hv hb
  exact ⟨a, c, h1⟩

theorem Run.fact {P : Program} {f : FuncId} {n : Nat} {F : Hp} {K : List EI} {l : Fr} {H : List HA} {R : Value → List HA → Prop} {p : Prop} (e : ∀ h, seps H h → p) (r : p → Run P f n F K l H R) : Run P f n F K l H R :=
  fun K' w0 w h a i q fw fa k => r (e h q) K' w0 w h a i q fw fa k

attribute [local irreducible] Ops Segs Run Spec

set_option maxHeartbeats 2000000 in
theorem law_LogAgain (k : Int) (v : Value) (ops : List LOp) (F : Hp) (hv : RdL F 4 (RdOp F) v ops) : Spec Try.prog 4 [.int .i64 k, v].toArray F [] fun r H => r = .bool true ∧ H = [] := by
  obtain ⟨oa, oc, rfl, hops⟩ := hv
  refine Spec.enter (n := 130) Try.func4 ok_law04_LogAgain rfl (by simp) ?_
  unfold ec_law04_LogAgain
  simp only [argFr, Nat.reduceAdd]
  (repeat (first | (apply Ops.q; rfl; rfl) | (apply Ops.gyB; rfl; rfl) | (apply Ops.gnB; rfl; decide) | (apply Ops.add; rfl; rfl; (constructor <;> omega)) | (apply Ops.sub; rfl; rfl; (constructor <;> omega)) | (apply Ops.rem; rfl; rfl; omega; omega) | (apply Ops.quo; rfl; rfl; (constructor <;> omega); omega) | (apply Ops.ld; rfl; (first | exact m0 | exact m1 | exact m2 | exact m3 | exact m4 | exact m5 | exact m6); rfl) | (apply Ops.st0; rfl; rfl; rfl; rfl; (first | exact u0 | exact u1 | exact u2 | exact u3 | exact u4 | exact u5); focus (simp; done)) | refine Ops.nil ?_ | refine Segs.nil ?_ | (apply Segs.oneS; rfl) | refine Run.seq ?_ | refine Run.reg ?_ | refine Run.block ?_ | refine Run.blk ?_ | refine Run.skip ?_))
  refine Ops.call1 rfl .nil (fun F' _ _ => law_alive F') ?_
  rintro v G ⟨rfl, rfl⟩
  simp only [List.nil_append]
  (repeat (first | (apply Ops.q; rfl; rfl) | (apply Ops.gyB; rfl; rfl) | (apply Ops.gnB; rfl; decide) | (apply Ops.add; rfl; rfl; (constructor <;> omega)) | (apply Ops.sub; rfl; rfl; (constructor <;> omega)) | (apply Ops.rem; rfl; rfl; omega; omega) | (apply Ops.quo; rfl; rfl; (constructor <;> omega); omega) | (apply Ops.ld; rfl; (first | exact m0 | exact m1 | exact m2 | exact m3 | exact m4 | exact m5 | exact m6); rfl) | (apply Ops.st0; rfl; rfl; rfl; rfl; (first | exact u0 | exact u1 | exact u2 | exact u3 | exact u4 | exact u5); focus (simp; done)) | refine Ops.nil ?_ | refine Segs.nil ?_ | (apply Segs.oneS; rfl) | refine Run.seq ?_ | refine Run.reg ?_ | refine Run.block ?_ | refine Run.blk ?_ | refine Run.skip ?_))
  refine Run.condF rfl ?_
  (repeat (first | (apply Ops.q; rfl; rfl) | (apply Ops.gyB; rfl; rfl) | (apply Ops.gnB; rfl; decide) | (apply Ops.add; rfl; rfl; (constructor <;> omega)) | (apply Ops.sub; rfl; rfl; (constructor <;> omega)) | (apply Ops.rem; rfl; rfl; omega; omega) | (apply Ops.quo; rfl; rfl; (constructor <;> omega); omega) | (apply Ops.ld; rfl; (first | exact m0 | exact m1 | exact m2 | exact m3 | exact m4 | exact m5 | exact m6); rfl) | (apply Ops.st0; rfl; rfl; rfl; rfl; (first | exact u0 | exact u1 | exact u2 | exact u3 | exact u4 | exact u5); focus (simp; done)) | refine Ops.nil ?_ | refine Segs.nil ?_ | (apply Segs.oneS; rfl) | refine Run.seq ?_ | refine Run.reg ?_ | refine Run.block ?_ | refine Run.blk ?_ | refine Run.skip ?_))
  refine Ops.mask 127 rfl rfl (by decide) fun n hn => ?_
  (repeat (first | (apply Ops.q; rfl; rfl) | (apply Ops.gyB; rfl; rfl) | (apply Ops.gnB; rfl; decide) | (apply Ops.add; rfl; rfl; (constructor <;> omega)) | (apply Ops.sub; rfl; rfl; (constructor <;> omega)) | (apply Ops.rem; rfl; rfl; omega; omega) | (apply Ops.quo; rfl; rfl; (constructor <;> omega); omega) | (apply Ops.ld; rfl; (first | exact m0 | exact m1 | exact m2 | exact m3 | exact m4 | exact m5 | exact m6); rfl) | (apply Ops.st0; rfl; rfl; rfl; rfl; (first | exact u0 | exact u1 | exact u2 | exact u3 | exact u4 | exact u5); focus (simp; done)) | refine Ops.nil ?_ | refine Segs.nil ?_ | (apply Segs.oneS; rfl) | refine Run.seq ?_ | refine Run.reg ?_ | refine Run.block ?_ | refine Run.blk ?_ | refine Run.skip ?_))
  refine Run.condD rfl (fun hbig => ?_) (fun hsm => ?_)
  · (repeat (first | (apply Ops.q; rfl; rfl) | (apply Ops.gyB; rfl; rfl) | (apply Ops.gnB; rfl; decide) | (apply Ops.add; rfl; rfl; (constructor <;> omega)) | (apply Ops.sub; rfl; rfl; (constructor <;> omega)) | (apply Ops.rem; rfl; rfl; omega; omega) | (apply Ops.quo; rfl; rfl; (constructor <;> omega); omega) | (apply Ops.ld; rfl; (first | exact m0 | exact m1 | exact m2 | exact m3 | exact m4 | exact m5 | exact m6); rfl) | (apply Ops.st0; rfl; rfl; rfl; rfl; (first | exact u0 | exact u1 | exact u2 | exact u3 | exact u4 | exact u5); focus (simp; done)) | refine Ops.nil ?_ | refine Segs.nil ?_ | (apply Segs.oneS; rfl) | refine Run.seq ?_ | refine Run.reg ?_ | refine Run.block ?_ | refine Run.blk ?_ | refine Run.skip ?_))
    exact Run.ret1 Try.func4 rfl rfl (fun h q => q) ⟨rfl, rfl⟩
  obtain ⟨L1, D1, ho1, hl1, ht1, hf1, hn1⟩ := new_open (n := 6 + n) (by omega)
  have hok0 := new_ok (n := 6 + n) (by omega)
  (repeat (first | (apply Ops.q; rfl; rfl) | (apply Ops.gyB; rfl; rfl) | (apply Ops.gnB; rfl; decide) | (apply Ops.add; rfl; rfl; (constructor <;> omega)) | (apply Ops.sub; rfl; rfl; (constructor <;> omega)) | (apply Ops.rem; rfl; rfl; omega; omega) | (apply Ops.quo; rfl; rfl; (constructor <;> omega); omega) | (apply Ops.ld; rfl; (first | exact m0 | exact m1 | exact m2 | exact m3 | exact m4 | exact m5 | exact m6); rfl) | (apply Ops.st0; rfl; rfl; rfl; rfl; (first | exact u0 | exact u1 | exact u2 | exact u3 | exact u4 | exact u5); focus (simp; done)) | refine Ops.nil ?_ | refine Segs.nil ?_ | (apply Segs.oneS; rfl) | refine Run.seq ?_ | refine Run.reg ?_ | refine Run.block ?_ | refine Run.blk ?_ | refine Run.skip ?_))
  refine Ops.call1 rfl .nil (fun F' _ _ => disk_New (6 + n) (by omega) F') ?_
  rintro v G ⟨d, rfl, rfl⟩
  rw [show (6 : Int) + (n : Int) = ((6 + n : Nat) : Int) by omega]
  simp only [List.cons_append, List.nil_append]
  (repeat (first | (apply Ops.q; rfl; rfl) | (apply Ops.gyB; rfl; rfl) | (apply Ops.gnB; rfl; decide) | (apply Ops.add; rfl; rfl; (constructor <;> omega)) | (apply Ops.sub; rfl; rfl; (constructor <;> omega)) | (apply Ops.rem; rfl; rfl; omega; omega) | (apply Ops.quo; rfl; rfl; (constructor <;> omega); omega) | (apply Ops.ld; rfl; (first | exact m0 | exact m1 | exact m2 | exact m3 | exact m4 | exact m5 | exact m6); rfl) | (apply Ops.st0; rfl; rfl; rfl; rfl; (first | exact u0 | exact u1 | exact u2 | exact u3 | exact u4 | exact u5); focus (simp; done)) | refine Ops.nil ?_ | refine Segs.nil ?_ | (apply Segs.oneS; rfl) | refine Run.seq ?_ | refine Run.reg ?_ | refine Run.block ?_ | refine Run.blk ?_ | refine Run.skip ?_))
  refine Ops.call1 rfl (.cons s0 .nil) (fun F' _ _ => log_Open d (DiskS.new ((6 + n : Nat) : Int)) hok0.1 rfl (by show 0 + 5000 ≤ _; omega) F') ?_
  intro v G hv
  rw [ho1] at hv
  obtain ⟨l, rfl, rfl⟩ := hv
  simp only [List.cons_append, List.nil_append]
  (repeat (first | (apply Ops.q; rfl; rfl) | (apply Ops.gyB; rfl; rfl) | (apply Ops.gnB; rfl; decide) | (apply Ops.add; rfl; rfl; (constructor <;> omega)) | (apply Ops.sub; rfl; rfl; (constructor <;> omega)) | (apply Ops.rem; rfl; rfl; omega; omega) | (apply Ops.quo; rfl; rfl; (constructor <;> omega); omega) | (apply Ops.ld; rfl; (first | exact m0 | exact m1 | exact m2 | exact m3 | exact m4 | exact m5 | exact m6); rfl) | (apply Ops.st0; rfl; rfl; rfl; rfl; (first | exact u0 | exact u1 | exact u2 | exact u3 | exact u4 | exact u5); focus (simp; done)) | refine Ops.nil ?_ | refine Segs.nil ?_ | (apply Segs.oneS; rfl) | refine Run.seq ?_ | refine Run.reg ?_ | refine Run.block ?_ | refine Run.blk ?_ | refine Run.skip ?_))
  refine Run.condF rfl ?_
  (repeat (first | (apply Ops.q; rfl; rfl) | (apply Ops.gyB; rfl; rfl) | (apply Ops.gnB; rfl; decide) | (apply Ops.add; rfl; rfl; (constructor <;> omega)) | (apply Ops.sub; rfl; rfl; (constructor <;> omega)) | (apply Ops.rem; rfl; rfl; omega; omega) | (apply Ops.quo; rfl; rfl; (constructor <;> omega); omega) | (apply Ops.ld; rfl; (first | exact m0 | exact m1 | exact m2 | exact m3 | exact m4 | exact m5 | exact m6); rfl) | (apply Ops.st0; rfl; rfl; rfl; rfl; (first | exact u0 | exact u1 | exact u2 | exact u3 | exact u4 | exact u5); focus (simp; done)) | refine Ops.nil ?_ | refine Segs.nil ?_ | (apply Segs.oneS; rfl) | refine Run.seq ?_ | refine Run.reg ?_ | refine Run.block ?_ | refine Run.blk ?_ | refine Run.skip ?_))
  refine Run.loopI (ι := Nat × LogS × DiskS × List Bytes) (fun x => ops.length - x.1) (fun x => x.1 ≤ ops.length ∧ Held x.2.1 x.2.2.1 x.2.2.2 ∧ x.2.2.1.fate ≤ 0 ∧ x.2.2.1.kept.length = 6 + n ∧ ∀ b ∈ x.2.2.2, b.length ≤ 300)
    (fun x => [(42, .int .i64 x.1), (41, .int .i64 ops.length), (40, .slice oa ops.length oc), (6, .pointer (some ⟨l, 0, none⟩)), (5, .pointer (some ⟨d, 0, none⟩))]) (fun x => [LogP l d x.2.1, DiskP d x.2.2.1])
    (0, L1, D1, []) ⟨Nat.zero_le _, hl1, hf1, hn1, fun b hb => by cases hb⟩ (.cons rfl (.cons rfl (.cons rfl (.cons rfl (.cons rfl .nil))))) (fun _ h => h) ?_
  rintro ⟨i, L, D, rs⟩ ⟨hi, hl, hf, hk, hb3⟩ ih
  try dsimp only at hi hl hf hk hb3 ih ⊢
  have hrt := len_le_total rs
  have hroom0 := hl.rep.room
  have hhf : D.hf = (D.kept.length - 2) / 2 := rfl
  unfold ec_law04_LogAgain_L2
  (repeat (first | (apply Ops.q; rfl; rfl) | (apply Ops.gyB; rfl; rfl) | (apply Ops.gnB; rfl; decide) | (apply Ops.add; rfl; rfl; (constructor <;> omega)) | (apply Ops.sub; rfl; rfl; (constructor <;> omega)) | (apply Ops.rem; rfl; rfl; omega; omega) | (apply Ops.quo; rfl; rfl; (constructor <;> omega); omega) | (apply Ops.ld; rfl; (first | exact m0 | exact m1 | exact m2 | exact m3 | exact m4 | exact m5 | exact m6); rfl) | (apply Ops.st0; rfl; rfl; rfl; rfl; (first | exact u0 | exact u1 | exact u2 | exact u3 | exact u4 | exact u5); focus (simp; done)) | refine Ops.nil ?_ | refine Segs.nil ?_ | (apply Segs.oneS; rfl) | refine Run.seq ?_ | refine Run.reg ?_ | refine Run.block ?_ | refine Run.blk ?_ | refine Run.skip ?_))
  refine Run.condD rfl (fun hlt => ?_) (fun hge => ?_)
  · have h1 : i < ops.length := by omega
    have e1 : ops[i]? = some ops[i] := List.getElem?_eq_getElem h1
    generalize ops[i] = o at *
    rcases hops with hops | ⟨ob, oo, La, T, fz, rfl, hF, hlen, hq⟩
    · rw [hops] at h1; simp at h1
    obtain ⟨v, hcs, hrd⟩ := hq i o e1
    have hrd2 := hrd
    obtain ⟨ra, rc, rfl, _⟩ := hrd2
    (repeat (first | (apply Ops.q; rfl; rfl) | (apply Ops.gyB; rfl; rfl) | (apply Ops.gnB; rfl; decide) | (apply Ops.add; rfl; rfl; (constructor <;> omega)) | (apply Ops.sub; rfl; rfl; (constructor <;> omega)) | (apply Ops.rem; rfl; rfl; omega; omega) | (apply Ops.quo; rfl; rfl; (constructor <;> omega); omega) | (apply Ops.ld; rfl; (first | exact m0 | exact m1 | exact m2 | exact m3 | exact m4 | exact m5 | exact m6); rfl) | (apply Ops.st0; rfl; rfl; rfl; rfl; (first | exact u0 | exact u1 | exact u2 | exact u3 | exact u4 | exact u5); focus (simp; done)) | refine Ops.nil ?_ | refine Segs.nil ?_ | (apply Segs.oneS; rfl) | refine Run.seq ?_ | refine Run.reg ?_ | refine Run.block ?_ | refine Run.blk ?_ | refine Run.skip ?_))
    refine Ops.ixS rfl rfl ⟨by omega, by omega⟩ ?_
    refine Ops.ldnF rfl hF (by rw [Int.toNat_natCast]; omega) ?_
    rw [Int.toNat_natCast, hcs]
    refine Ops.alloc fun b9 => ?_
    refine Ops.stn0 (vs := [.int .i64 o.kind, .int .i64 o.num, .slice ra o.b.length rc, .int .u64 o.keeps]) rfl rfl rfl rfl (by intro v hv; simp only [List.mem_cons, List.not_mem_nil, or_false] at hv; rcases hv with rfl | rfl | rfl | rfl <;> rfl) u0 (by decide) (by simp) ?_
    (repeat (first | (apply Ops.q; rfl; rfl) | (apply Ops.gyB; rfl; rfl) | (apply Ops.gnB; rfl; decide) | (apply Ops.add; rfl; rfl; (constructor <;> omega)) | (apply Ops.sub; rfl; rfl; (constructor <;> omega)) | (apply Ops.rem; rfl; rfl; omega; omega) | (apply Ops.quo; rfl; rfl; (constructor <;> omega); omega) | (apply Ops.ld; rfl; (first | exact m0 | exact m1 | exact m2 | exact m3 | exact m4 | exact m5 | exact m6); rfl) | (apply Ops.st0; rfl; rfl; rfl; rfl; (first | exact u0 | exact u1 | exact u2 | exact u3 | exact u4 | exact u5); focus (simp; done)) | refine Ops.nil ?_ | refine Segs.nil ?_ | (apply Segs.oneS; rfl) | refine Run.seq ?_ | refine Run.reg ?_ | refine Run.block ?_ | refine Run.blk ?_ | refine Run.skip ?_))
    by_cases h3 : o.b.length ≤ 300
    · have e3 : decide ((o.b.length : Int) ≤ 300) = true := by simp; omega
      simp only [e3]
      (repeat (first | (apply Ops.q; rfl; rfl) | (apply Ops.gyB; rfl; rfl) | (apply Ops.gnB; rfl; decide) | (apply Ops.add; rfl; rfl; (constructor <;> omega)) | (apply Ops.sub; rfl; rfl; (constructor <;> omega)) | (apply Ops.rem; rfl; rfl; omega; omega) | (apply Ops.quo; rfl; rfl; (constructor <;> omega); omega) | (apply Ops.ld; rfl; (first | exact m0 | exact m1 | exact m2 | exact m3 | exact m4 | exact m5 | exact m6); rfl) | (apply Ops.st0; rfl; rfl; rfl; rfl; (first | exact u0 | exact u1 | exact u2 | exact u3 | exact u4 | exact u5); focus (simp; done)) | refine Ops.nil ?_ | refine Segs.nil ?_ | (apply Segs.oneS; rfl) | refine Run.seq ?_ | refine Run.reg ?_ | refine Run.block ?_ | refine Run.blk ?_ | refine Run.skip ?_))
      refine Run.condD rfl (fun hk0 => ?_) (fun hk0 => ?_)
      · (repeat (first | (apply Ops.q; rfl; rfl) | (apply Ops.gyB; rfl; rfl) | (apply Ops.gnB; rfl; decide) | (apply Ops.add; rfl; rfl; (constructor <;> omega)) | (apply Ops.sub; rfl; rfl; (constructor <;> omega)) | (apply Ops.rem; rfl; rfl; omega; omega) | (apply Ops.quo; rfl; rfl; (constructor <;> omega); omega) | (apply Ops.ld; rfl; (first | exact m0 | exact m1 | exact m2 | exact m3 | exact m4 | exact m5 | exact m6); rfl) | (apply Ops.st0; rfl; rfl; rfl; rfl; (first | exact u0 | exact u1 | exact u2 | exact u3 | exact u4 | exact u5); focus (simp; done)) | refine Ops.nil ?_ | refine Segs.nil ?_ | (apply Segs.oneS; rfl) | refine Run.seq ?_ | refine Run.reg ?_ | refine Run.block ?_ | refine Run.blk ?_ | refine Run.skip ?_))
        refine Ops.call1 rfl (.cons s1 (.cons s1 .nil)) (fun F' e kn => log_Append l d L D hl.ok (by rw [hl.cache]; decide) _ o.b (by omega) F' (hrd.ext e)) ?_
        rintro v G ⟨rfl, rfl⟩
        simp only [List.cons_append, List.nil_append]
        by_cases hroom : total rs + sectorsOf o.b.length ≤ D.hf
        · rcases append_held hl (b := o.b) (by omega) hroom with ⟨a1, a2, a3, a4⟩ | ⟨_, a2, _⟩
          case inr => omega
          generalize L.append D o.b = r1 at *
          obtain ⟨e1, L2, D2⟩ := r1
          dsimp only at *
          (repeat (first | (apply Ops.q; rfl; rfl) | (apply Ops.gyB; rfl; rfl) | (apply Ops.gnB; rfl; decide) | (apply Ops.add; rfl; rfl; (constructor <;> omega)) | (apply Ops.sub; rfl; rfl; (constructor <;> omega)) | (apply Ops.rem; rfl; rfl; omega; omega) | (apply Ops.quo; rfl; rfl; (constructor <;> omega); omega) | (apply Ops.ld; rfl; (first | exact m0 | exact m1 | exact m2 | exact m3 | exact m4 | exact m5 | exact m6); rfl) | (apply Ops.st0; rfl; rfl; rfl; rfl; (first | exact u0 | exact u1 | exact u2 | exact u3 | exact u4 | exact u5); focus (simp; done)) | refine Ops.nil ?_ | refine Segs.nil ?_ | (apply Segs.oneS; rfl) | refine Run.seq ?_ | refine Run.reg ?_ | refine Run.block ?_ | refine Run.blk ?_ | refine Run.skip ?_))
          refine Run.lp (Run.again (ih (i + 1, L2, D2, rs ++ [o.b]) (by dsimp only; omega) ⟨by dsimp only; omega, a2, a3 hf, by dsimp only; omega, ?_⟩) (.cons rfl (.cons rfl (.cons rfl (.cons rfl (.cons rfl .nil))))) (fun h q => take_sub (.cons s0 (.cons s0 .nil)) h q))
          intro b hb
          rcases List.mem_append.1 hb with hb | hb
          · exact hb3 b hb
          · rw [List.mem_singleton] at hb; subst hb; exact h3
        · rw [append_full hl.dead (by omega) (by rw [hl.pos]; omega)]
          dsimp only
          (repeat (first | (apply Ops.q; rfl; rfl) | (apply Ops.gyB; rfl; rfl) | (apply Ops.gnB; rfl; decide) | (apply Ops.add; rfl; rfl; (constructor <;> omega)) | (apply Ops.sub; rfl; rfl; (constructor <;> omega)) | (apply Ops.rem; rfl; rfl; omega; omega) | (apply Ops.quo; rfl; rfl; (constructor <;> omega); omega) | (apply Ops.ld; rfl; (first | exact m0 | exact m1 | exact m2 | exact m3 | exact m4 | exact m5 | exact m6); rfl) | (apply Ops.st0; rfl; rfl; rfl; rfl; (first | exact u0 | exact u1 | exact u2 | exact u3 | exact u4 | exact u5); focus (simp; done)) | refine Ops.nil ?_ | refine Segs.nil ?_ | (apply Segs.oneS; rfl) | refine Run.seq ?_ | refine Run.reg ?_ | refine Run.block ?_ | refine Run.blk ?_ | refine Run.skip ?_))
          exact Run.lp (Run.again (ih (i + 1, L, D, rs) (by dsimp only; omega) ⟨by dsimp only; omega, hl, hf, hk, hb3⟩) (.cons rfl (.cons rfl (.cons rfl (.cons rfl (.cons rfl .nil))))) (fun h q => take_sub (.cons s0 (.cons s0 .nil)) h q))
      · (repeat (first | (apply Ops.q; rfl; rfl) | (apply Ops.gyB; rfl; rfl) | (apply Ops.gnB; rfl; decide) | (apply Ops.add; rfl; rfl; (constructor <;> omega)) | (apply Ops.sub; rfl; rfl; (constructor <;> omega)) | (apply Ops.rem; rfl; rfl; omega; omega) | (apply Ops.quo; rfl; rfl; (constructor <;> omega); omega) | (apply Ops.ld; rfl; (first | exact m0 | exact m1 | exact m2 | exact m3 | exact m4 | exact m5 | exact m6); rfl) | (apply Ops.st0; rfl; rfl; rfl; rfl; (first | exact u0 | exact u1 | exact u2 | exact u3 | exact u4 | exact u5); focus (simp; done)) | refine Ops.nil ?_ | refine Segs.nil ?_ | (apply Segs.oneS; rfl) | refine Run.seq ?_ | refine Run.reg ?_ | refine Run.block ?_ | refine Run.blk ?_ | refine Run.skip ?_))
        exact Run.lp (Run.again (ih (i + 1, L, D, rs) (by dsimp only; omega) ⟨by dsimp only; omega, hl, hf, hk, hb3⟩) (.cons rfl (.cons rfl (.cons rfl (.cons rfl (.cons rfl .nil))))) (fun h q => take_sub (.cons s1 (.cons s1 .nil)) h q))
    · have e3 : decide ((o.b.length : Int) ≤ 300) = false := by simp; omega
      simp only [e3]
      (repeat (first | (apply Ops.q; rfl; rfl) | (apply Ops.gyB; rfl; rfl) | (apply Ops.gnB; rfl; decide) | (apply Ops.add; rfl; rfl; (constructor <;> omega)) | (apply Ops.sub; rfl; rfl; (constructor <;> omega)) | (apply Ops.rem; rfl; rfl; omega; omega) | (apply Ops.quo; rfl; rfl; (constructor <;> omega); omega) | (apply Ops.ld; rfl; (first | exact m0 | exact m1 | exact m2 | exact m3 | exact m4 | exact m5 | exact m6); rfl) | (apply Ops.st0; rfl; rfl; rfl; rfl; (first | exact u0 | exact u1 | exact u2 | exact u3 | exact u4 | exact u5); focus (simp; done)) | refine Ops.nil ?_ | refine Segs.nil ?_ | (apply Segs.oneS; rfl) | refine Run.seq ?_ | refine Run.reg ?_ | refine Run.block ?_ | refine Run.blk ?_ | refine Run.skip ?_))
      refine Run.condF rfl ?_
      (repeat (first | (apply Ops.q; rfl; rfl) | (apply Ops.gyB; rfl; rfl) | (apply Ops.gnB; rfl; decide) | (apply Ops.add; rfl; rfl; (constructor <;> omega)) | (apply Ops.sub; rfl; rfl; (constructor <;> omega)) | (apply Ops.rem; rfl; rfl; omega; omega) | (apply Ops.quo; rfl; rfl; (constructor <;> omega); omega) | (apply Ops.ld; rfl; (first | exact m0 | exact m1 | exact m2 | exact m3 | exact m4 | exact m5 | exact m6); rfl) | (apply Ops.st0; rfl; rfl; rfl; rfl; (first | exact u0 | exact u1 | exact u2 | exact u3 | exact u4 | exact u5); focus (simp; done)) | refine Ops.nil ?_ | refine Segs.nil ?_ | (apply Segs.oneS; rfl) | refine Run.seq ?_ | refine Run.reg ?_ | refine Run.block ?_ | refine Run.blk ?_ | refine Run.skip ?_))
      exact Run.lp (Run.again (ih (i + 1, L, D, rs) (by dsimp only; omega) ⟨by dsimp only; omega, hl, hf, hk, hb3⟩) (.cons rfl (.cons rfl (.cons rfl (.cons rfl (.cons rfl .nil))))) (fun h q => take_sub (.cons s1 (.cons s1 .nil)) h q))
  refine Run.exit rfl ?_
  clear ih
  have hls := hl.list
  have hsz := hl.ok.disk.size
  have hbm : ∀ b ∈ rs, b.length ≤ 1099511627 := fun b hb => by have := hb3 b hb; omega
  have hrl : rs.length ≤ 1099511627 := by omega
  have hdd : decide (rs = rs) = true := decide_eq_true rfl
  have hst : decide (D.steps = D.steps) = true := decide_eq_true rfl
  have hlf : decide (((D.hf : Int) - (total rs : Int)) = (D.hf : Int) - (total rs : Int)) = true := decide_eq_true rfl
  obtain ⟨L4, ho4, hl4, _⟩ := hl.bears.open_ hl.down
  have hls4 := hl4.list
  (repeat (first | (apply Ops.q; rfl; rfl) | (apply Ops.gyB; rfl; rfl) | (apply Ops.gnB; rfl; decide) | (apply Ops.add; rfl; rfl; (constructor <;> omega)) | (apply Ops.sub; rfl; rfl; (constructor <;> omega)) | (apply Ops.rem; rfl; rfl; omega; omega) | (apply Ops.quo; rfl; rfl; (constructor <;> omega); omega) | (apply Ops.ld; rfl; (first | exact m0 | exact m1 | exact m2 | exact m3 | exact m4 | exact m5 | exact m6); rfl) | (apply Ops.st0; rfl; rfl; rfl; rfl; (first | exact u0 | exact u1 | exact u2 | exact u3 | exact u4 | exact u5); focus (simp; done)) | refine Ops.nil ?_ | refine Segs.nil ?_ | (apply Segs.oneS; rfl) | refine Run.seq ?_ | refine Run.reg ?_ | refine Run.block ?_ | refine Run.blk ?_ | refine Run.skip ?_))
  refine Ops.call1 rfl (.cons s0 .nil) (fun F' _ _ => log_List l d L (by rw [hls]; exact hrl) (by rw [hls]; exact hbm) F') ?_
  rintro v G ⟨xa, xc, rfl, rfl⟩
  rw [hls]
  simp only [List.cons_append, List.nil_append]
  (repeat (first | (apply Ops.q; rfl; rfl) | (apply Ops.gyB; rfl; rfl) | (apply Ops.gnB; rfl; decide) | (apply Ops.add; rfl; rfl; (constructor <;> omega)) | (apply Ops.sub; rfl; rfl; (constructor <;> omega)) | (apply Ops.rem; rfl; rfl; omega; omega) | (apply Ops.quo; rfl; rfl; (constructor <;> omega); omega)))
  refine Ops.nil (Segs.nil (Run.again (l' := [(10, .slice xa rs.length xc), (6, .pointer (some ⟨l, 0, none⟩)), (5, .pointer (some ⟨d, 0, none⟩))])
    (H' := [LstP (.slice xa rs.length xc) rs, LogP l d L, DiskP d D]) ?_ (.cons rfl (.cons rfl (.cons rfl .nil))) (fun h q => q)))
  refine Run.conseq lst_know (Run.open_ s0 fun G hG => Run.lendD G (take_app G _) fun F1 x1 k1 => ?_)
  have hwas := hG.2 F1 k1
  clear hG k1
  (repeat (first | (apply Ops.q; rfl; rfl) | (apply Ops.gyB; rfl; rfl) | (apply Ops.gnB; rfl; decide) | (apply Ops.add; rfl; rfl; (constructor <;> omega)) | (apply Ops.sub; rfl; rfl; (constructor <;> omega)) | (apply Ops.rem; rfl; rfl; omega; omega) | (apply Ops.quo; rfl; rfl; (constructor <;> omega); omega) | (apply Ops.ld; rfl; (first | exact m0 | exact m1 | exact m2 | exact m3 | exact m4 | exact m5 | exact m6); rfl) | (apply Ops.st0; rfl; rfl; rfl; rfl; (first | exact u0 | exact u1 | exact u2 | exact u3 | exact u4 | exact u5); focus (simp; done)) | refine Ops.nil ?_ | refine Segs.nil ?_ | (apply Segs.oneS; rfl) | refine Run.seq ?_ | refine Run.reg ?_ | refine Run.block ?_ | refine Run.blk ?_ | refine Run.skip ?_))
  refine Ops.call1 rfl (.cons s1 .nil) (fun F' _ _ => disk_Steps d D F') ?_
  rintro v G ⟨rfl, rfl⟩
  simp only [List.cons_append, List.nil_append]
  (repeat (first | (apply Ops.q; rfl; rfl) | (apply Ops.gyB; rfl; rfl) | (apply Ops.gnB; rfl; decide) | (apply Ops.add; rfl; rfl; (constructor <;> omega)) | (apply Ops.sub; rfl; rfl; (constructor <;> omega)) | (apply Ops.rem; rfl; rfl; omega; omega) | (apply Ops.quo; rfl; rfl; (constructor <;> omega); omega) | (apply Ops.ld; rfl; (first | exact m0 | exact m1 | exact m2 | exact m3 | exact m4 | exact m5 | exact m6); rfl) | (apply Ops.st0; rfl; rfl; rfl; rfl; (first | exact u0 | exact u1 | exact u2 | exact u3 | exact u4 | exact u5); focus (simp; done)) | refine Ops.nil ?_ | refine Segs.nil ?_ | (apply Segs.oneS; rfl) | refine Run.seq ?_ | refine Run.reg ?_ | refine Run.block ?_ | refine Run.blk ?_ | refine Run.skip ?_))
  refine Ops.call1 rfl (.cons s0 .nil) (fun F' _ _ => log_Open d D hl.ok.disk hl.down (by rw [hl.cache]; decide) F') ?_
  intro v G hv
  rw [ho4] at hv
  obtain ⟨m, rfl, rfl⟩ := hv
  simp only [List.cons_append, List.nil_append]
  (repeat (first | (apply Ops.q; rfl; rfl) | (apply Ops.gyB; rfl; rfl) | (apply Ops.gnB; rfl; decide) | (apply Ops.add; rfl; rfl; (constructor <;> omega)) | (apply Ops.sub; rfl; rfl; (constructor <;> omega)) | (apply Ops.rem; rfl; rfl; omega; omega) | (apply Ops.quo; rfl; rfl; (constructor <;> omega); omega) | (apply Ops.ld; rfl; (first | exact m0 | exact m1 | exact m2 | exact m3 | exact m4 | exact m5 | exact m6); rfl) | (apply Ops.st0; rfl; rfl; rfl; rfl; (first | exact u0 | exact u1 | exact u2 | exact u3 | exact u4 | exact u5); focus (simp; done)) | refine Ops.nil ?_ | refine Segs.nil ?_ | (apply Segs.oneS; rfl) | refine Run.seq ?_ | refine Run.reg ?_ | refine Run.block ?_ | refine Run.blk ?_ | refine Run.skip ?_))
  refine Ops.call1 rfl (.cons s1 .nil) (fun F' _ _ => disk_Steps d D F') ?_
  rintro v G ⟨rfl, rfl⟩
  simp only [List.cons_append, List.nil_append]
  (repeat (first | (apply Ops.q; rfl; rfl) | (apply Ops.gyB; rfl; rfl) | (apply Ops.gnB; rfl; decide) | (apply Ops.add; rfl; rfl; (constructor <;> omega)) | (apply Ops.sub; rfl; rfl; (constructor <;> omega)) | (apply Ops.rem; rfl; rfl; omega; omega) | (apply Ops.quo; rfl; rfl; (constructor <;> omega); omega) | (apply Ops.ld; rfl; (first | exact m0 | exact m1 | exact m2 | exact m3 | exact m4 | exact m5 | exact m6); rfl) | (apply Ops.st0; rfl; rfl; rfl; rfl; (first | exact u0 | exact u1 | exact u2 | exact u3 | exact u4 | exact u5); focus (simp; done)) | refine Ops.nil ?_ | refine Segs.nil ?_ | (apply Segs.oneS; rfl) | refine Run.seq ?_ | refine Run.reg ?_ | refine Run.block ?_ | refine Run.blk ?_ | refine Run.skip ?_))
  simp only [hst, Bool.not_true]
  (repeat (first | (apply Ops.q; rfl; rfl) | (apply Ops.gyB; rfl; rfl) | (apply Ops.gnB; rfl; decide) | (apply Ops.add; rfl; rfl; (constructor <;> omega)) | (apply Ops.sub; rfl; rfl; (constructor <;> omega)) | (apply Ops.rem; rfl; rfl; omega; omega) | (apply Ops.quo; rfl; rfl; (constructor <;> omega); omega) | (apply Ops.ld; rfl; (first | exact m0 | exact m1 | exact m2 | exact m3 | exact m4 | exact m5 | exact m6); rfl) | (apply Ops.st0; rfl; rfl; rfl; rfl; (first | exact u0 | exact u1 | exact u2 | exact u3 | exact u4 | exact u5); focus (simp; done)) | refine Ops.nil ?_ | refine Segs.nil ?_ | (apply Segs.oneS; rfl) | refine Run.seq ?_ | refine Run.reg ?_ | refine Run.block ?_ | refine Run.blk ?_ | refine Run.skip ?_))
  refine Ops.call1 rfl (.cons s1 .nil) (fun F' _ _ => log_List m d L4 (by rw [hls4]; exact hrl) (by rw [hls4]; exact hbm) F') ?_
  rintro v G ⟨ya, yc, rfl, rfl⟩
  rw [hls4]
  simp only [List.cons_append, List.nil_append]
  (repeat (first | (apply Ops.q; rfl; rfl) | (apply Ops.gyB; rfl; rfl) | (apply Ops.gnB; rfl; decide) | (apply Ops.add; rfl; rfl; (constructor <;> omega)) | (apply Ops.sub; rfl; rfl; (constructor <;> omega)) | (apply Ops.rem; rfl; rfl; omega; omega) | (apply Ops.quo; rfl; rfl; (constructor <;> omega); omega) | (apply Ops.ld; rfl; (first | exact m0 | exact m1 | exact m2 | exact m3 | exact m4 | exact m5 | exact m6); rfl) | (apply Ops.st0; rfl; rfl; rfl; rfl; (first | exact u0 | exact u1 | exact u2 | exact u3 | exact u4 | exact u5); focus (simp; done)) | refine Ops.nil ?_ | refine Segs.nil ?_ | (apply Segs.oneS; rfl) | refine Run.seq ?_ | refine Run.reg ?_ | refine Run.block ?_ | refine Run.blk ?_ | refine Run.skip ?_))
  refine Ops.call1 rfl (.cons s0 .nil) (fun F' e _ => law_same_list _ _ _ rs F' (hwas.ext e) hrl) ?_
  rintro v G ⟨rfl, rfl⟩
  rw [hdd]
  simp only [List.nil_append]
  (repeat (first | (apply Ops.q; rfl; rfl) | (apply Ops.gyB; rfl; rfl) | (apply Ops.gnB; rfl; decide) | (apply Ops.add; rfl; rfl; (constructor <;> omega)) | (apply Ops.sub; rfl; rfl; (constructor <;> omega)) | (apply Ops.rem; rfl; rfl; omega; omega) | (apply Ops.quo; rfl; rfl; (constructor <;> omega); omega) | (apply Ops.ld; rfl; (first | exact m0 | exact m1 | exact m2 | exact m3 | exact m4 | exact m5 | exact m6); rfl) | (apply Ops.st0; rfl; rfl; rfl; rfl; (first | exact u0 | exact u1 | exact u2 | exact u3 | exact u4 | exact u5); focus (simp; done)) | refine Ops.nil ?_ | refine Segs.nil ?_ | (apply Segs.oneS; rfl) | refine Run.seq ?_ | refine Run.reg ?_ | refine Run.block ?_ | refine Run.blk ?_ | refine Run.skip ?_))
  refine Ops.call1 rfl (.cons s0 (.cons s0 .nil)) (fun F' _ _ => log_Left m d L4 D (by omega) (by rw [hl4.pos]; omega) F') ?_
  rintro v G ⟨rfl, rfl⟩
  rw [hl4.pos]
  simp only [List.cons_append, List.nil_append]
  (repeat (first | (apply Ops.q; rfl; rfl) | (apply Ops.gyB; rfl; rfl) | (apply Ops.gnB; rfl; decide) | (apply Ops.add; rfl; rfl; (constructor <;> omega)) | (apply Ops.sub; rfl; rfl; (constructor <;> omega)) | (apply Ops.rem; rfl; rfl; omega; omega) | (apply Ops.quo; rfl; rfl; (constructor <;> omega); omega) | (apply Ops.ld; rfl; (first | exact m0 | exact m1 | exact m2 | exact m3 | exact m4 | exact m5 | exact m6); rfl) | (apply Ops.st0; rfl; rfl; rfl; rfl; (first | exact u0 | exact u1 | exact u2 | exact u3 | exact u4 | exact u5); focus (simp; done)) | refine Ops.nil ?_ | refine Segs.nil ?_ | (apply Segs.oneS; rfl) | refine Run.seq ?_ | refine Run.reg ?_ | refine Run.block ?_ | refine Run.blk ?_ | refine Run.skip ?_))
  refine Ops.call1 rfl (.cons s2 (.cons s1 .nil)) (fun F' _ _ => log_Left l d L D (by omega) (by rw [hl.pos]; omega) F') ?_
  rintro v G ⟨rfl, rfl⟩
  rw [hl.pos]
  simp only [List.cons_append, List.nil_append]
  (repeat (first | (apply Ops.q; rfl; rfl) | (apply Ops.gyB; rfl; rfl) | (apply Ops.gnB; rfl; decide) | (apply Ops.add; rfl; rfl; (constructor <;> omega)) | (apply Ops.sub; rfl; rfl; (constructor <;> omega)) | (apply Ops.rem; rfl; rfl; omega; omega) | (apply Ops.quo; rfl; rfl; (constructor <;> omega); omega) | (apply Ops.ld; rfl; (first | exact m0 | exact m1 | exact m2 | exact m3 | exact m4 | exact m5 | exact m6); rfl) | (apply Ops.st0; rfl; rfl; rfl; rfl; (first | exact u0 | exact u1 | exact u2 | exact u3 | exact u4 | exact u5); focus (simp; done)) | refine Ops.nil ?_ | refine Segs.nil ?_ | (apply Segs.oneS; rfl) | refine Run.seq ?_ | refine Run.reg ?_ | refine Run.block ?_ | refine Run.blk ?_ | refine Run.skip ?_))
  simp only [hlf, Bool.not_true]
  (repeat (first | (apply Ops.q; rfl; rfl) | (apply Ops.gyB; rfl; rfl) | (apply Ops.gnB; rfl; decide) | (apply Ops.add; rfl; rfl; (constructor <;> omega)) | (apply Ops.sub; rfl; rfl; (constructor <;> omega)) | (apply Ops.rem; rfl; rfl; omega; omega) | (apply Ops.quo; rfl; rfl; (constructor <;> omega); omega) | (apply Ops.ld; rfl; (first | exact m0 | exact m1 | exact m2 | exact m3 | exact m4 | exact m5 | exact m6); rfl) | (apply Ops.st0; rfl; rfl; rfl; rfl; (first | exact u0 | exact u1 | exact u2 | exact u3 | exact u4 | exact u5); focus (simp; done)) | refine Ops.nil ?_ | refine Segs.nil ?_ | (apply Segs.oneS; rfl) | refine Run.seq ?_ | refine Run.reg ?_ | refine Run.block ?_ | refine Run.blk ?_ | refine Run.skip ?_))
  refine Run.condF rfl ?_
  (repeat (first | (apply Ops.q; rfl; rfl) | (apply Ops.gyB; rfl; rfl) | (apply Ops.gnB; rfl; decide) | (apply Ops.add; rfl; rfl; (constructor <;> omega)) | (apply Ops.sub; rfl; rfl; (constructor <;> omega)) | (apply Ops.rem; rfl; rfl; omega; omega) | (apply Ops.quo; rfl; rfl; (constructor <;> omega); omega) | (apply Ops.ld; rfl; (first | exact m0 | exact m1 | exact m2 | exact m3 | exact m4 | exact m5 | exact m6); rfl) | (apply Ops.st0; rfl; rfl; rfl; rfl; (first | exact u0 | exact u1 | exact u2 | exact u3 | exact u4 | exact u5); focus (simp; done)) | refine Ops.nil ?_ | refine Segs.nil ?_ | (apply Segs.oneS; rfl) | refine Run.seq ?_ | refine Run.reg ?_ | refine Run.block ?_ | refine Run.blk ?_ | refine Run.skip ?_))
  refine Ops.call1 rfl (.cons s2 .nil) (fun F' _ _ => log_List m d L4 (by rw [hls4]; exact hrl) (by rw [hls4]; exact hbm) F') ?_
  rintro v G ⟨ya, yc, rfl, rfl⟩
  rw [hls4]
  simp only [List.cons_append, List.nil_append]
  (repeat (first | (apply Ops.q; rfl; rfl) | (apply Ops.gyB; rfl; rfl) | (apply Ops.gnB; rfl; decide) | (apply Ops.add; rfl; rfl; (constructor <;> omega)) | (apply Ops.sub; rfl; rfl; (constructor <;> omega)) | (apply Ops.rem; rfl; rfl; omega; omega) | (apply Ops.quo; rfl; rfl; (constructor <;> omega); omega)))
  refine Ops.nil (Segs.nil (Run.again (l' := [(94, .int .i64 0), (93, .int .i64 rs.length), (92, .slice ya rs.length yc), (12, .pointer (some ⟨m, 0, none⟩)), (10, .slice xa rs.length xc), (5, .pointer (some ⟨d, 0, none⟩))])
    (H' := [LstP (.slice ya rs.length yc) rs, LogP m d L4, DiskP d D]) ?_ (.cons rfl (.cons rfl (.cons rfl (.cons rfl (.cons rfl (.cons rfl .nil)))))) (fun h q => take_sub (.cons s0 (.cons s0 (.cons s1 .nil))) h q)))
  refine Run.open_ s0 fun G ⟨ya', yc', vs, he, hvl, hG⟩ => ?_
  cases he
  subst hG
  simp only [List.cons_append, List.nil_append]
  refine Run.block (Run.loopI (ι := Nat × List Bytes) (fun x => rs.length - x.1) (fun x => x.1 ≤ rs.length ∧ x.2.length = rs.length ∧ ∀ b ∈ x.2, b.length ≤ 300)
    (fun x => [(94, .int .i64 x.1), (93, .int .i64 rs.length), (92, .slice ya rs.length yc), (12, .pointer (some ⟨m, 0, none⟩)), (10, .slice xa rs.length xc), (5, .pointer (some ⟨d, 0, none⟩))])
    (fun x => [OwnS ya rs.length yc 1 30 vs, RowsP vs x.2, LogP m d L4, DiskP d D])
    (0, rs) ⟨Nat.zero_le _, rfl, hb3⟩ (.cons rfl (.cons rfl (.cons rfl (.cons rfl (.cons rfl (.cons rfl .nil)))))) (fun _ h => h) ?_)
  rintro ⟨i, bss⟩ ⟨hi, hbl, hb4⟩ ih
  try dsimp only at hi hbl hb4 ih ⊢
  unfold ec_law04_LogAgain_L1
  (repeat (first | (apply Ops.q; rfl; rfl) | (apply Ops.gyB; rfl; rfl) | (apply Ops.gnB; rfl; decide) | (apply Ops.add; rfl; rfl; (constructor <;> omega)) | (apply Ops.sub; rfl; rfl; (constructor <;> omega)) | (apply Ops.rem; rfl; rfl; omega; omega) | (apply Ops.quo; rfl; rfl; (constructor <;> omega); omega) | (apply Ops.ld; rfl; (first | exact m0 | exact m1 | exact m2 | exact m3 | exact m4 | exact m5 | exact m6); rfl) | (apply Ops.st0; rfl; rfl; rfl; rfl; (first | exact u0 | exact u1 | exact u2 | exact u3 | exact u4 | exact u5); focus (simp; done)) | refine Ops.nil ?_ | refine Segs.nil ?_ | (apply Segs.oneS; rfl) | refine Run.seq ?_ | refine Run.reg ?_ | refine Run.block ?_ | refine Run.blk ?_ | refine Run.skip ?_))
  refine Run.condD rfl (fun hlt => ?_) (fun hge => ?_)
  · have h1 : i < bss.length := by omega
    have h2 : i < vs.length := by omega
    have e1 : bss[i]? = some bss[i] := List.getElem?_eq_getElem h1
    have e2 : vs[i]? = some vs[i] := List.getElem?_eq_getElem h2
    have h3 : bss[i].length ≤ 300 := hb4 _ (List.getElem_mem h1)
    generalize bss[i] = b at *
    generalize vs[i] = v at *
    refine Run.fact (fun h q => rows_shape e2 e1 h (take_sub (.cons s1 .nil) h q)) fun ⟨ra, rc, hv⟩ => ?_
    subst hv
    refine Run.open_ s0 fun G hG => ?_
    obtain ⟨hxl, ⟨_, h0, _⟩ | ⟨vb, sp, rfl, hcap, hsp, rfl⟩⟩ := hG
    · omega
    have e3 : (vs ++ sp)[i]? = some (.slice ra b.length rc) := by rw [List.getElem?_append_left h2]; exact e2
    simp only [List.cons_append, List.nil_append]
    (repeat (first | (apply Ops.q; rfl; rfl) | (apply Ops.gyB; rfl; rfl) | (apply Ops.gnB; rfl; decide) | (apply Ops.add; rfl; rfl; (constructor <;> omega)) | (apply Ops.sub; rfl; rfl; (constructor <;> omega)) | (apply Ops.rem; rfl; rfl; omega; omega) | (apply Ops.quo; rfl; rfl; (constructor <;> omega); omega) | (apply Ops.ld; rfl; (first | exact m0 | exact m1 | exact m2 | exact m3 | exact m4 | exact m5 | exact m6); rfl) | (apply Ops.st0; rfl; rfl; rfl; rfl; (first | exact u0 | exact u1 | exact u2 | exact u3 | exact u4 | exact u5); focus (simp; done)) | refine Ops.nil ?_ | refine Segs.nil ?_ | (apply Segs.oneS; rfl) | refine Run.seq ?_ | refine Run.reg ?_ | refine Run.block ?_ | refine Run.blk ?_ | refine Run.skip ?_))
    refine Ops.ixS rfl rfl ⟨by omega, by omega⟩ ?_
    refine Ops.ld rfl m0 (by rw [Nat.zero_add, Int.toNat_natCast, Nat.mul_one]; exact e3) ?_
    (repeat (first | (apply Ops.q; rfl; rfl) | (apply Ops.gyB; rfl; rfl) | (apply Ops.gnB; rfl; decide) | (apply Ops.add; rfl; rfl; (constructor <;> omega)) | (apply Ops.sub; rfl; rfl; (constructor <;> omega)) | (apply Ops.rem; rfl; rfl; omega; omega) | (apply Ops.quo; rfl; rfl; (constructor <;> omega); omega) | (apply Ops.ld; rfl; (first | exact m0 | exact m1 | exact m2 | exact m3 | exact m4 | exact m5 | exact m6); rfl) | (apply Ops.st0; rfl; rfl; rfl; rfl; (first | exact u0 | exact u1 | exact u2 | exact u3 | exact u4 | exact u5); focus (simp; done)) | refine Ops.nil ?_ | refine Segs.nil ?_ | (apply Segs.oneS; rfl) | refine Run.seq ?_ | refine Run.reg ?_ | refine Run.block ?_ | refine Run.blk ?_ | refine Run.skip ?_))
    refine Run.loopI (ι := Nat × Bytes) (fun x => b.length - x.1) (fun x => x.1 ≤ b.length ∧ x.2.length = b.length)
      (fun x => [(100, .int .i64 x.1), (99, .int .i64 b.length), (15, .slice ra b.length rc), (94, .int .i64 i), (93, .int .i64 rs.length), (92, .slice (some ⟨vb, 0, none⟩) rs.length yc), (12, .pointer (some ⟨m, 0, none⟩)), (10, .slice xa rs.length xc), (5, .pointer (some ⟨d, 0, none⟩))])
      (fun x => [RowP (.slice ra b.length rc) x.2, grp (RestI vs bss i (.slice ra b.length rc)), OwnS (some ⟨vb, 0, none⟩) rs.length yc 1 30 vs, LogP m d L4, DiskP d D])
      (0, b) ⟨Nat.zero_le _, rfl⟩ (.cons rfl (.cons rfl (.cons rfl (.cons rfl (.cons rfl (.cons rfl (.cons rfl (.cons rfl (.cons rfl .nil))))))))) ?_ ?_
    · intro h q
      have q1 := fold_grp (I := OwnI (some ⟨vb, 0, none⟩) rs.length yc 1 30 vs) (.cons s0 .nil) ⟨hxl, .inr ⟨vb, sp, rfl, hcap, hsp, rfl⟩⟩ h q
      exact rows_pull e2 e1 h (seps_swap q1)
    rintro ⟨j, y⟩ ⟨hj, hyl⟩ ih2
    try dsimp only at hj hyl ih2 ⊢
    unfold ec_law04_LogAgain_L0
    (repeat (first | (apply Ops.q; rfl; rfl) | (apply Ops.gyB; rfl; rfl) | (apply Ops.gnB; rfl; decide) | (apply Ops.add; rfl; rfl; (constructor <;> omega)) | (apply Ops.sub; rfl; rfl; (constructor <;> omega)) | (apply Ops.rem; rfl; rfl; omega; omega) | (apply Ops.quo; rfl; rfl; (constructor <;> omega); omega) | (apply Ops.ld; rfl; (first | exact m0 | exact m1 | exact m2 | exact m3 | exact m4 | exact m5 | exact m6); rfl) | (apply Ops.st0; rfl; rfl; rfl; rfl; (first | exact u0 | exact u1 | exact u2 | exact u3 | exact u4 | exact u5); focus (simp; done)) | refine Ops.nil ?_ | refine Segs.nil ?_ | (apply Segs.oneS; rfl) | refine Run.seq ?_ | refine Run.reg ?_ | refine Run.block ?_ | refine Run.blk ?_ | refine Run.skip ?_))
    refine Run.condD rfl (fun hlt2 => ?_) (fun hge2 => ?_)
    · have hj1 : j < y.length := by omega
      have ey : y[j]? = some y[j] := List.getElem?_eq_getElem hj1
      generalize y[j] = u at *
      refine Run.open_ s0 fun G ⟨ra', rc', he, hcase⟩ => ?_
      obtain ⟨rfl, hel, rfl⟩ := Value.slice.inj he
      rcases hcase with ⟨hy, _⟩ | ⟨yb, yo, Ly, Ty, rfl, hll, htt, rfl⟩
      · rw [hy] at hj1; simp at hj1
      simp only [List.cons_append, List.nil_append]
      (repeat (first | (apply Ops.q; rfl; rfl) | (apply Ops.gyB; rfl; rfl) | (apply Ops.gnB; rfl; decide) | (apply Ops.add; rfl; rfl; (constructor <;> omega)) | (apply Ops.sub; rfl; rfl; (constructor <;> omega)) | (apply Ops.rem; rfl; rfl; omega; omega) | (apply Ops.quo; rfl; rfl; (constructor <;> omega); omega) | (apply Ops.ld; rfl; (first | exact m0 | exact m1 | exact m2 | exact m3 | exact m4 | exact m5 | exact m6); rfl) | (apply Ops.st0; rfl; rfl; rfl; rfl; (first | exact u0 | exact u1 | exact u2 | exact u3 | exact u4 | exact u5); focus (simp; done)) | refine Ops.nil ?_ | refine Segs.nil ?_ | (apply Segs.oneS; rfl) | refine Run.seq ?_ | refine Run.reg ?_ | refine Run.block ?_ | refine Run.blk ?_ | refine Run.skip ?_))
      refine Ops.ixS rfl rfl ⟨by omega, by omega⟩ ?_
      refine Ops.ld rfl m0 (by rw [Int.toNat_natCast, Nat.mul_one]; exact at_of htt hj1 ey) ?_
      refine Ops.pE (v' := bv (UInt8.ofNat (u.toNat + 1))) rfl ?_ ?_
      · show Value.int .u8 (IntKind.u8.wrap ((u.toNat : Int) + 1)) = _
        rw [show (u.toNat : Int) + 1 = ((u.toNat + 1 : Nat) : Int) by omega, wrap8]; rfl
      refine Ops.ixS rfl rfl ⟨by omega, by omega⟩ ?_
      refine Ops.st0 rfl rfl rfl rfl u0 (by rw [Int.toNat_natCast]; omega) ?_
      (repeat (first | (apply Ops.q; rfl; rfl) | (apply Ops.gyB; rfl; rfl) | (apply Ops.gnB; rfl; decide) | (apply Ops.add; rfl; rfl; (constructor <;> omega)) | (apply Ops.sub; rfl; rfl; (constructor <;> omega)) | (apply Ops.rem; rfl; rfl; omega; omega) | (apply Ops.quo; rfl; rfl; (constructor <;> omega); omega) | (apply Ops.ld; rfl; (first | exact m0 | exact m1 | exact m2 | exact m3 | exact m4 | exact m5 | exact m6); rfl) | (apply Ops.st0; rfl; rfl; rfl; rfl; (first | exact u0 | exact u1 | exact u2 | exact u3 | exact u4 | exact u5); focus (simp; done)) | refine Ops.nil ?_ | refine Segs.nil ?_ | (apply Segs.oneS; rfl) | refine Run.seq ?_ | refine Run.reg ?_ | refine Run.block ?_ | refine Run.blk ?_ | refine Run.skip ?_))
      refine Run.lp (Run.again (ih2 (j + 1, y.set j (UInt8.ofNat (u.toNat + 1))) (by dsimp only; omega) ⟨by dsimp only; omega, by rw [List.length_set]; exact hyl⟩) (.cons rfl (.cons rfl (.cons rfl (.cons rfl (.cons rfl (.cons rfl (.cons rfl (.cons rfl (.cons rfl .nil))))))))) ?_)
      intro h q
      rw [Int.toNat_natCast, Nat.mul_one] at q
      refine fold_grp (.cons s0 .nil) ⟨_, _, by rw [List.length_set, ← hel], .inr ⟨yb, yo, _, Ty, rfl, ?_, ?_, rfl⟩⟩ h q
      · rw [List.length_set, List.length_set]; exact hll
      · rw [List.length_set]; exact set_window htt
    · refine Run.exit rfl ?_
      refine Run.conseq rows_push ?_
      (repeat (first | (apply Ops.q; rfl; rfl) | (apply Ops.gyB; rfl; rfl) | (apply Ops.gnB; rfl; decide) | (apply Ops.add; rfl; rfl; (constructor <;> omega)) | (apply Ops.sub; rfl; rfl; (constructor <;> omega)) | (apply Ops.rem; rfl; rfl; omega; omega) | (apply Ops.quo; rfl; rfl; (constructor <;> omega); omega) | (apply Ops.ld; rfl; (first | exact m0 | exact m1 | exact m2 | exact m3 | exact m4 | exact m5 | exact m6); rfl) | (apply Ops.st0; rfl; rfl; rfl; rfl; (first | exact u0 | exact u1 | exact u2 | exact u3 | exact u4 | exact u5); focus (simp; done)) | refine Ops.nil ?_ | refine Segs.nil ?_ | (apply Segs.oneS; rfl) | refine Run.seq ?_ | refine Run.reg ?_ | refine Run.block ?_ | refine Run.blk ?_ | refine Run.skip ?_))
      refine Run.lp (Run.again (ih (i + 1, bss.set i y) (by dsimp only; omega) ⟨by dsimp only; omega, by dsimp only; rw [List.length_set]; exact hbl, ?_⟩) (.cons rfl (.cons rfl (.cons rfl (.cons rfl (.cons rfl (.cons rfl .nil)))))) (fun h q => seps_swap q))
      intro b' hb'
      rcases List.mem_or_eq_of_mem_set hb' with h | h
      · exact hb4 b' h
      · rw [h]; omega
  refine Run.exit rfl ?_
  clear ih
  refine Run.again (l' := [(12, .pointer (some ⟨m, 0, none⟩)), (10, .slice xa rs.length xc), (5, .pointer (some ⟨d, 0, none⟩))])
    (H' := [LogP m d L4, DiskP d D]) ?_ (.cons rfl (.cons rfl (.cons rfl .nil))) (fun h q => take_sub (.cons s2 (.cons s2 .nil)) h q)
  (repeat (first | (apply Ops.q; rfl; rfl) | (apply Ops.gyB; rfl; rfl) | (apply Ops.gnB; rfl; decide) | (apply Ops.add; rfl; rfl; (constructor <;> omega)) | (apply Ops.sub; rfl; rfl; (constructor <;> omega)) | (apply Ops.rem; rfl; rfl; omega; omega) | (apply Ops.quo; rfl; rfl; (constructor <;> omega); omega) | (apply Ops.ld; rfl; (first | exact m0 | exact m1 | exact m2 | exact m3 | exact m4 | exact m5 | exact m6); rfl) | (apply Ops.st0; rfl; rfl; rfl; rfl; (first | exact u0 | exact u1 | exact u2 | exact u3 | exact u4 | exact u5); focus (simp; done)) | refine Ops.nil ?_ | refine Segs.nil ?_ | (apply Segs.oneS; rfl) | refine Run.seq ?_ | refine Run.reg ?_ | refine Run.block ?_ | refine Run.blk ?_ | refine Run.skip ?_))
  refine Ops.call1 rfl (.cons s1 .nil) (fun F' _ _ => log_Open d D hl.ok.disk hl.down (by rw [hl.cache]; decide) F') ?_
  intro v G hv
  rw [ho4] at hv
  obtain ⟨kk, rfl, rfl⟩ := hv
  simp only [List.cons_append, List.nil_append]
  (repeat (first | (apply Ops.q; rfl; rfl) | (apply Ops.gyB; rfl; rfl) | (apply Ops.gnB; rfl; decide) | (apply Ops.add; rfl; rfl; (constructor <;> omega)) | (apply Ops.sub; rfl; rfl; (constructor <;> omega)) | (apply Ops.rem; rfl; rfl; omega; omega) | (apply Ops.quo; rfl; rfl; (constructor <;> omega); omega) | (apply Ops.ld; rfl; (first | exact m0 | exact m1 | exact m2 | exact m3 | exact m4 | exact m5 | exact m6); rfl) | (apply Ops.st0; rfl; rfl; rfl; rfl; (first | exact u0 | exact u1 | exact u2 | exact u3 | exact u4 | exact u5); focus (simp; done)) | refine Ops.nil ?_ | refine Segs.nil ?_ | (apply Segs.oneS; rfl) | refine Run.seq ?_ | refine Run.reg ?_ | refine Run.block ?_ | refine Run.blk ?_ | refine Run.skip ?_))
  refine Ops.call1 rfl (.cons s2 .nil) (fun F' _ _ => log_List m d L4 (by rw [hls4]; exact hrl) (by rw [hls4]; exact hbm) F') ?_
  rintro v G ⟨za, zc, rfl, rfl⟩
  rw [hls4]
  simp only [List.cons_append, List.nil_append]
  (repeat (first | (apply Ops.q; rfl; rfl) | (apply Ops.gyB; rfl; rfl) | (apply Ops.gnB; rfl; decide) | (apply Ops.add; rfl; rfl; (constructor <;> omega)) | (apply Ops.sub; rfl; rfl; (constructor <;> omega)) | (apply Ops.rem; rfl; rfl; omega; omega) | (apply Ops.quo; rfl; rfl; (constructor <;> omega); omega) | (apply Ops.ld; rfl; (first | exact m0 | exact m1 | exact m2 | exact m3 | exact m4 | exact m5 | exact m6); rfl) | (apply Ops.st0; rfl; rfl; rfl; rfl; (first | exact u0 | exact u1 | exact u2 | exact u3 | exact u4 | exact u5); focus (simp; done)) | refine Ops.nil ?_ | refine Segs.nil ?_ | (apply Segs.oneS; rfl) | refine Run.seq ?_ | refine Run.reg ?_ | refine Run.block ?_ | refine Run.blk ?_ | refine Run.skip ?_))
  refine Ops.call1 rfl (.cons s0 .nil) (fun F' e _ => law_same_list _ _ _ rs F' (hwas.ext e) hrl) ?_
  rintro v G ⟨rfl, rfl⟩
  rw [hdd]
  simp only [List.nil_append]
  (repeat (first | (apply Ops.q; rfl; rfl) | (apply Ops.gyB; rfl; rfl) | (apply Ops.gnB; rfl; decide) | (apply Ops.add; rfl; rfl; (constructor <;> omega)) | (apply Ops.sub; rfl; rfl; (constructor <;> omega)) | (apply Ops.rem; rfl; rfl; omega; omega) | (apply Ops.quo; rfl; rfl; (constructor <;> omega); omega) | (apply Ops.ld; rfl; (first | exact m0 | exact m1 | exact m2 | exact m3 | exact m4 | exact m5 | exact m6); rfl) | (apply Ops.st0; rfl; rfl; rfl; rfl; (first | exact u0 | exact u1 | exact u2 | exact u3 | exact u4 | exact u5); focus (simp; done)) | refine Ops.nil ?_ | refine Segs.nil ?_ | (apply Segs.oneS; rfl) | refine Run.seq ?_ | refine Run.reg ?_ | refine Run.block ?_ | refine Run.blk ?_ | refine Run.skip ?_))
  refine Ops.call1 rfl (.cons s1 .nil) (fun F' _ _ => log_List kk d L4 (by rw [hls4]; exact hrl) (by rw [hls4]; exact hbm) F') ?_
  rintro v G ⟨wa, wc, rfl, rfl⟩
  rw [hls4]
  simp only [List.cons_append, List.nil_append]
  (repeat (first | (apply Ops.q; rfl; rfl) | (apply Ops.gyB; rfl; rfl) | (apply Ops.gnB; rfl; decide) | (apply Ops.add; rfl; rfl; (constructor <;> omega)) | (apply Ops.sub; rfl; rfl; (constructor <;> omega)) | (apply Ops.rem; rfl; rfl; omega; omega) | (apply Ops.quo; rfl; rfl; (constructor <;> omega); omega) | (apply Ops.ld; rfl; (first | exact m0 | exact m1 | exact m2 | exact m3 | exact m4 | exact m5 | exact m6); rfl) | (apply Ops.st0; rfl; rfl; rfl; rfl; (first | exact u0 | exact u1 | exact u2 | exact u3 | exact u4 | exact u5); focus (simp; done)) | refine Ops.nil ?_ | refine Segs.nil ?_ | (apply Segs.oneS; rfl) | refine Run.seq ?_ | refine Run.reg ?_ | refine Run.block ?_ | refine Run.blk ?_ | refine Run.skip ?_))
  refine Ops.call1 rfl (.cons s0 .nil) (fun F' e _ => law_same_list _ _ _ rs F' (hwas.ext e) hrl) ?_
  rintro v G ⟨rfl, rfl⟩
  rw [hdd]
  simp only [List.nil_append]
  (repeat (first | (apply Ops.q; rfl; rfl) | (apply Ops.gyB; rfl; rfl) | (apply Ops.gnB; rfl; decide) | (apply Ops.add; rfl; rfl; (constructor <;> omega)) | (apply Ops.sub; rfl; rfl; (constructor <;> omega)) | (apply Ops.rem; rfl; rfl; omega; omega) | (apply Ops.quo; rfl; rfl; (constructor <;> omega); omega) | (apply Ops.ld; rfl; (first | exact m0 | exact m1 | exact m2 | exact m3 | exact m4 | exact m5 | exact m6); rfl) | (apply Ops.st0; rfl; rfl; rfl; rfl; (first | exact u0 | exact u1 | exact u2 | exact u3 | exact u4 | exact u5); focus (simp; done)) | refine Ops.nil ?_ | refine Segs.nil ?_ | (apply Segs.oneS; rfl) | refine Run.seq ?_ | refine Run.reg ?_ | refine Run.block ?_ | refine Run.blk ?_ | refine Run.skip ?_))
  exact Run.ret1 Try.func4 rfl rfl (fun h q => take_sub .nil h q) ⟨rfl, rfl⟩
end Eng
end Go.Proofs.Ytbhlolmglieehaa
