/- Numbers taken off bytes. -/
import Derived.Test.YtbhlolmglieehaaRec1
set_option linter.unusedSimpArgs false
set_option linter.unusedVariables false
namespace Go.Proofs.Ytbhlolmglieehaa
namespace Eng
attribute [local irreducible] Ops Segs Run Spec

theorem or_add {x y i : Nat} (hx : x < 2 ^ i) : x ||| (y * 2 ^ i) = x + y * 2 ^ i := by
  have := Nat.shiftLeft_add_eq_or_of_lt hx y
  rw [Nat.shiftLeft_eq] at this
  rw [Nat.or_comm, ← this, Nat.add_comm]

theorem at_of {L : List Value} {o n : Nat} {bs : Bytes} (ht : (L.drop o).take n = bvs bs) {i : Nat} {b : UInt8} (hi : i < n) (hb : bs[i]? = some b) : L[o + i]? = some (bv b) := by
  have := congrArg (fun l => l[i]?) ht
  simp only [List.getElem?_take, if_pos hi, List.getElem?_drop, bvs, List.getElem?_map, hb] at this
  exact this

theorem rec_Reader_Num (r : Nat) (R : Rd) (most : Int) (hR : R.b.length ≤ 1099511627776) (F : Hp) :
    Spec Try.prog 36 [.pointer (some ⟨r, 0, none⟩), .int .i64 most].toArray F [RdP r R] fun v H => v = .int .i64 (R.num most).1 ∧ H = [RdP r (R.num most).2] := by
  refine Spec.enter (n := 72) Try.func36 ok_rec_Reader_Num rfl (by simp) ?_
  unfold ec_rec_Reader_Num
  simp only [argFr, Nat.reduceAdd]
  refine Run.open_ s0 fun G hG => ?_
  have short : R.b.length < 4 → R.num most = (0, ⟨[], true⟩) := by
    intro h
    obtain ⟨b, bad⟩ := R
    match b, h with
    | [], _ => rfl
    | [_], _ => rfl
    | [_, _], _ => rfl
    | [_, _, _], _ => rfl
    | _ :: _ :: _ :: _ :: _, h => simp at h; omega
  obtain ⟨a, c, ⟨hb, rfl⟩ | ⟨b, o, L, T, fz, rfl, hl, hlc, ht, rfl⟩⟩ := hG
  · simp only [List.cons_append, List.nil_append]
    (repeat (first | (apply Ops.q; rfl; rfl) | (apply Ops.gyB; rfl; rfl) | (apply Ops.gnB; rfl; decide) | (apply Ops.add; rfl; rfl; (constructor <;> omega)) | (apply Ops.sub; rfl; rfl; (constructor <;> omega)) | (apply Ops.rem; rfl; rfl; omega; omega) | (apply Ops.quo; rfl; rfl; (constructor <;> omega); omega) | (apply Ops.ld; rfl; (first | exact m0 | exact m1 | exact m2 | exact m3 | exact m4 | exact m5 | exact m6); rfl) | (apply Ops.st0; rfl; rfl; rfl; rfl; (first | exact u0 | exact u1 | exact u2 | exact u3 | exact u4 | exact u5); focus (simp; done)) | refine Ops.nil ?_ | refine Segs.nil ?_ | (apply Segs.oneS; rfl) | refine Run.seq ?_ | refine Run.reg ?_ | refine Run.block ?_ | refine Run.blk ?_ | refine Run.skip ?_))
    refine Run.condD rfl (fun h => ?_) (fun h => ?_)
    · rw [short (by rw [hb]; simp)]
      (repeat (first | (apply Ops.q; rfl; rfl) | (apply Ops.gyB; rfl; rfl) | (apply Ops.gnB; rfl; decide) | (apply Ops.add; rfl; rfl; (constructor <;> omega)) | (apply Ops.sub; rfl; rfl; (constructor <;> omega)) | (apply Ops.rem; rfl; rfl; omega; omega) | (apply Ops.quo; rfl; rfl; (constructor <;> omega); omega) | (apply Ops.ld; rfl; (first | exact m0 | exact m1 | exact m2 | exact m3 | exact m4 | exact m5 | exact m6); rfl) | (apply Ops.st0; rfl; rfl; rfl; rfl; (first | exact u0 | exact u1 | exact u2 | exact u3 | exact u4 | exact u5); focus (simp; done)) | refine Ops.nil ?_ | refine Segs.nil ?_ | (apply Segs.oneS; rfl) | refine Run.seq ?_ | refine Run.reg ?_ | refine Run.block ?_ | refine Run.blk ?_ | refine Run.skip ?_))
      exact Run.ret1 Try.func36 rfl rfl (fold_grp (I := RdI r ⟨[], true⟩) (.cons s0 .nil) ⟨none, 0, .inl ⟨rfl, rfl⟩⟩) ⟨rfl, rfl⟩
    · rw [hb] at h; simp at h
  · simp only [List.cons_append, List.nil_append]
    (repeat (first | (apply Ops.q; rfl; rfl) | (apply Ops.gyB; rfl; rfl) | (apply Ops.gnB; rfl; decide) | (apply Ops.add; rfl; rfl; (constructor <;> omega)) | (apply Ops.sub; rfl; rfl; (constructor <;> omega)) | (apply Ops.rem; rfl; rfl; omega; omega) | (apply Ops.quo; rfl; rfl; (constructor <;> omega); omega) | (apply Ops.ld; rfl; (first | exact m0 | exact m1 | exact m2 | exact m3 | exact m4 | exact m5 | exact m6); rfl) | (apply Ops.st0; rfl; rfl; rfl; rfl; (first | exact u0 | exact u1 | exact u2 | exact u3 | exact u4 | exact u5); focus (simp; done)) | refine Ops.nil ?_ | refine Segs.nil ?_ | (apply Segs.oneS; rfl) | refine Run.seq ?_ | refine Run.reg ?_ | refine Run.block ?_ | refine Run.blk ?_ | refine Run.skip ?_))
    refine Run.condD rfl (fun h => ?_) (fun h => ?_)
    · rw [short (by omega)]
      (repeat (first | (apply Ops.q; rfl; rfl) | (apply Ops.gyB; rfl; rfl) | (apply Ops.gnB; rfl; decide) | (apply Ops.add; rfl; rfl; (constructor <;> omega)) | (apply Ops.sub; rfl; rfl; (constructor <;> omega)) | (apply Ops.rem; rfl; rfl; omega; omega) | (apply Ops.quo; rfl; rfl; (constructor <;> omega); omega) | (apply Ops.ld; rfl; (first | exact m0 | exact m1 | exact m2 | exact m3 | exact m4 | exact m5 | exact m6); rfl) | (apply Ops.st0; rfl; rfl; rfl; rfl; (first | exact u0 | exact u1 | exact u2 | exact u3 | exact u4 | exact u5); focus (simp; done)) | refine Ops.nil ?_ | refine Segs.nil ?_ | (apply Segs.oneS; rfl) | refine Run.seq ?_ | refine Run.reg ?_ | refine Run.block ?_ | refine Run.blk ?_ | refine Run.skip ?_))
      exact Run.ret1 Try.func36 rfl rfl (fun h q => take_sub (.cons s0 .nil) h (fold_grp (I := RdI r ⟨[], true⟩) (.cons s0 .nil) ⟨none, 0, .inl ⟨rfl, rfl⟩⟩ h q)) ⟨rfl, rfl⟩
    · obtain ⟨bs, bad⟩ := R
      dsimp only at *
      have h4 : ∃ b0 b1 b2 b3 rest, bs = b0 :: b1 :: b2 :: b3 :: rest := by
        match bs, h with
        | b0 :: b1 :: b2 :: b3 :: rest, _ => exact ⟨_, _, _, _, _, rfl⟩
        | [], h => simp at h
        | [_], h => simp at h
        | [_, _], h => simp at h
        | [_, _, _], h => simp at h
      obtain ⟨b0, b1, b2, b3, rest, rfl⟩ := h4
      · skip
        have g0 := at_of ht (i := 0) (by simp) rfl
        have g1 := at_of ht (i := 1) (by simp) rfl
        have g2 := at_of ht (i := 2) (by simp) rfl
        have g3 := at_of ht (i := 3) (by simp) rfl
        have l0 := b0.toNat_lt
        have l1 := b1.toNat_lt
        have l2 := b2.toNat_lt
        have l3 := b3.toNat_lt
        have hlen : ((b0 :: b1 :: b2 :: b3 :: rest : Bytes).length : Int) = rest.length + 4 := by simp; omega
        have hlenN : (b0 :: b1 :: b2 :: b3 :: rest : Bytes).length = rest.length + 4 := by simp
        have hv := val4_lt b0 b1 b2 b3
        (repeat (first | (apply Ops.q; rfl; rfl) | (apply Ops.gyB; rfl; rfl) | (apply Ops.gnB; rfl; decide) | (apply Ops.add; rfl; rfl; (constructor <;> omega)) | (apply Ops.sub; rfl; rfl; (constructor <;> omega)) | (apply Ops.rem; rfl; rfl; omega; omega) | (apply Ops.quo; rfl; rfl; (constructor <;> omega); omega) | (apply Ops.ld; rfl; (first | exact m0 | exact m1 | exact m2 | exact m3 | exact m4 | exact m5 | exact m6); rfl) | (apply Ops.st0; rfl; rfl; rfl; rfl; (first | exact u0 | exact u1 | exact u2 | exact u3 | exact u4 | exact u5); focus (simp; done)) | refine Ops.nil ?_ | refine Segs.nil ?_ | (apply Segs.oneS; rfl) | refine Run.seq ?_ | refine Run.reg ?_ | refine Run.block ?_ | refine Run.blk ?_ | refine Run.skip ?_))
        refine Segs.lend [_, _] (.cons s0 (.cons s0 .nil)) fun F1 x1 k1 => ?_
        (repeat (first | (apply Ops.q; rfl; rfl) | (apply Ops.gyB; rfl; rfl) | (apply Ops.gnB; rfl; decide) | (apply Ops.add; rfl; rfl; (constructor <;> omega)) | (apply Ops.sub; rfl; rfl; (constructor <;> omega)) | (apply Ops.rem; rfl; rfl; omega; omega) | (apply Ops.quo; rfl; rfl; (constructor <;> omega); omega) | (apply Ops.ld; rfl; (first | exact m0 | exact m1 | exact m2 | exact m3 | exact m4 | exact m5 | exact m6); rfl) | (apply Ops.st0; rfl; rfl; rfl; rfl; (first | exact u0 | exact u1 | exact u2 | exact u3 | exact u4 | exact u5); focus (simp; done)) | refine Ops.nil ?_ | refine Segs.nil ?_ | (apply Segs.oneS; rfl) | refine Run.seq ?_ | refine Run.reg ?_ | refine Run.block ?_ | refine Run.blk ?_ | refine Run.skip ?_))
        refine Ops.ldF rfl (k1 _ _ m0) rfl ?_
        refine Ops.ixS rfl rfl ⟨by omega, by omega⟩ ?_
        refine Ops.ldF rfl (k1 _ _ m1) g0 ?_
        refine Ops.pE (v' := .int .u32 (b0.toNat : Int)) rfl (by rw [wrap_u32 (by omega) (by omega)]) ?_
        refine Ops.ldF rfl (k1 _ _ m0) rfl ?_
        refine Ops.ixS rfl rfl ⟨by omega, by omega⟩ ?_
        refine Ops.ldF rfl (k1 _ _ m1) g1 ?_
        refine Ops.pE (v' := .int .u32 (b1.toNat : Int)) rfl (by rw [wrap_u32 (by omega) (by omega)]) ?_
        refine Ops.pE (v' := .int .u32 ((b1.toNat * 2 ^ 8 : Nat) : Int)) rfl (by rw [show min (Int.toNat 8) IntKind.u32.bits = 8 from rfl, wrap_u32 (by omega) (by omega)]; rfl) ?_
        refine Ops.or (k := .u32) rfl rfl rfl rfl rfl (by simp [IntKind.bits]; omega) (by simp [IntKind.bits]; omega) ?_
        rw [or_add (i := 8) (by omega)]
        refine Ops.ldF rfl (k1 _ _ m0) rfl ?_
        refine Ops.ixS rfl rfl ⟨by omega, by omega⟩ ?_
        refine Ops.ldF rfl (k1 _ _ m1) g2 ?_
        refine Ops.pE (v' := .int .u32 (b2.toNat : Int)) rfl (by rw [wrap_u32 (by omega) (by omega)]) ?_
        refine Ops.pE (v' := .int .u32 ((b2.toNat * 2 ^ 16 : Nat) : Int)) rfl (by rw [show min (Int.toNat 16) IntKind.u32.bits = 16 from rfl, wrap_u32 (by omega) (by omega)]; rfl) ?_
        refine Ops.or (k := .u32) rfl rfl rfl rfl rfl (by simp [IntKind.bits]; omega) (by simp [IntKind.bits]; omega) ?_
        rw [or_add (i := 16) (by omega)]
        refine Ops.ldF rfl (k1 _ _ m0) rfl ?_
        refine Ops.ixS rfl rfl ⟨by omega, by omega⟩ ?_
        refine Ops.ldF rfl (k1 _ _ m1) g3 ?_
        refine Ops.pE (v' := .int .u32 (b3.toNat : Int)) rfl (by rw [wrap_u32 (by omega) (by omega)]) ?_
        refine Ops.pE (v' := .int .u32 ((b3.toNat * 2 ^ 24 : Nat) : Int)) rfl (by rw [show min (Int.toNat 24) IntKind.u32.bits = 24 from rfl, wrap_u32 (by omega) (by omega)]; rfl) ?_
        (repeat (first | (apply Ops.q; rfl; rfl) | (apply Ops.gyB; rfl; rfl) | (apply Ops.gnB; rfl; decide) | (apply Ops.add; rfl; rfl; (constructor <;> omega)) | (apply Ops.sub; rfl; rfl; (constructor <;> omega)) | (apply Ops.rem; rfl; rfl; omega; omega) | (apply Ops.quo; rfl; rfl; (constructor <;> omega); omega) | (apply Ops.ld; rfl; (first | exact m0 | exact m1 | exact m2 | exact m3 | exact m4 | exact m5 | exact m6); rfl) | (apply Ops.st0; rfl; rfl; rfl; rfl; (first | exact u0 | exact u1 | exact u2 | exact u3 | exact u4 | exact u5); focus (simp; done)) | refine Ops.nil ?_ | refine Segs.nil ?_ | (apply Segs.oneS; rfl) | refine Run.seq ?_ | refine Run.reg ?_ | refine Run.block ?_ | refine Run.blk ?_ | refine Run.skip ?_))
        refine Ops.or (k := .u32) rfl rfl rfl rfl rfl (by simp [IntKind.bits]; omega) (by simp [IntKind.bits]; omega) ?_
        rw [or_add (i := 24) (by omega), show b0.toNat + b1.toNat * 2 ^ 8 + b2.toNat * 2 ^ 16 + b3.toNat * 2 ^ 24 = val4 b0 b1 b2 b3 from rfl]
        (repeat (first | (apply Ops.q; rfl; rfl) | (apply Ops.gyB; rfl; rfl) | (apply Ops.gnB; rfl; decide) | (apply Ops.add; rfl; rfl; (constructor <;> omega)) | (apply Ops.sub; rfl; rfl; (constructor <;> omega)) | (apply Ops.rem; rfl; rfl; omega; omega) | (apply Ops.quo; rfl; rfl; (constructor <;> omega); omega) | (apply Ops.ld; rfl; (first | exact m0 | exact m1 | exact m2 | exact m3 | exact m4 | exact m5 | exact m6); rfl) | (apply Ops.st0; rfl; rfl; rfl; rfl; (first | exact u0 | exact u1 | exact u2 | exact u3 | exact u4 | exact u5); focus (simp; done)) | refine Ops.nil ?_ | refine Segs.nil ?_ | (apply Segs.oneS; rfl) | refine Run.seq ?_ | refine Run.reg ?_ | refine Run.block ?_ | refine Run.blk ?_ | refine Run.skip ?_))
        refine Ops.slS rfl rfl rfl (by omega) (by omega) fun a' ha' => ?_
        (repeat (first | (apply Ops.q; rfl; rfl) | (apply Ops.gyB; rfl; rfl) | (apply Ops.gnB; rfl; decide) | (apply Ops.add; rfl; rfl; (constructor <;> omega)) | (apply Ops.sub; rfl; rfl; (constructor <;> omega)) | (apply Ops.rem; rfl; rfl; omega; omega) | (apply Ops.quo; rfl; rfl; (constructor <;> omega); omega) | (apply Ops.ld; rfl; (first | exact m0 | exact m1 | exact m2 | exact m3 | exact m4 | exact m5 | exact m6); rfl) | (apply Ops.st0; rfl; rfl; rfl; rfl; (first | exact u0 | exact u1 | exact u2 | exact u3 | exact u4 | exact u5); focus (simp; done)) | refine Ops.nil ?_ | refine Segs.nil ?_ | (apply Segs.oneS; rfl) | refine Run.seq ?_ | refine Run.reg ?_ | refine Run.block ?_ | refine Run.blk ?_ | refine Run.skip ?_))
        rw [show (b0 :: b1 :: b2 :: b3 :: rest : Bytes).length - Int.toNat 4 = rest.length from by rw [hlenN]; rfl] at *
        refine Ops.pE (v' := .int .i64 (val4 b0 b1 b2 b3 : Int)) rfl (by rw [wrap_i64 (by omega) (by omega)]) ?_
        (repeat (first | (apply Ops.q; rfl; rfl) | (apply Ops.gyB; rfl; rfl) | (apply Ops.gnB; rfl; decide) | (apply Ops.add; rfl; rfl; (constructor <;> omega)) | (apply Ops.sub; rfl; rfl; (constructor <;> omega)) | (apply Ops.rem; rfl; rfl; omega; omega) | (apply Ops.quo; rfl; rfl; (constructor <;> omega); omega) | (apply Ops.ld; rfl; (first | exact m0 | exact m1 | exact m2 | exact m3 | exact m4 | exact m5 | exact m6); rfl) | (apply Ops.st0; rfl; rfl; rfl; rfl; (first | exact u0 | exact u1 | exact u2 | exact u3 | exact u4 | exact u5); focus (simp; done)) | refine Ops.nil ?_ | refine Segs.nil ?_ | (apply Segs.oneS; rfl) | refine Run.seq ?_ | refine Run.reg ?_ | refine Run.block ?_ | refine Run.blk ?_ | refine Run.skip ?_))
        refine Run.condD rfl (fun hm => ?_) (fun hm => ?_)
        · have : Rd.num most ⟨b0 :: b1 :: b2 :: b3 :: rest, bad⟩ = (0, ⟨[], true⟩) := by simp only [Rd.num]; rw [if_pos hm]
          rw [this]
          (repeat (first | (apply Ops.q; rfl; rfl) | (apply Ops.gyB; rfl; rfl) | (apply Ops.gnB; rfl; decide) | (apply Ops.add; rfl; rfl; (constructor <;> omega)) | (apply Ops.sub; rfl; rfl; (constructor <;> omega)) | (apply Ops.rem; rfl; rfl; omega; omega) | (apply Ops.quo; rfl; rfl; (constructor <;> omega); omega) | (apply Ops.ld; rfl; (first | exact m0 | exact m1 | exact m2 | exact m3 | exact m4 | exact m5 | exact m6); rfl) | (apply Ops.st0; rfl; rfl; rfl; rfl; (first | exact u0 | exact u1 | exact u2 | exact u3 | exact u4 | exact u5); focus (simp; done)) | refine Ops.nil ?_ | refine Segs.nil ?_ | (apply Segs.oneS; rfl) | refine Run.seq ?_ | refine Run.reg ?_ | refine Run.block ?_ | refine Run.blk ?_ | refine Run.skip ?_))
          exact Run.ret1 Try.func36 rfl rfl (fun h q => take_sub (.cons s0 .nil) h (fold_grp (I := RdI r ⟨[], true⟩) (.cons s0 .nil) ⟨none, 0, .inl ⟨rfl, rfl⟩⟩ h q)) ⟨rfl, rfl⟩
        · have : Rd.num most ⟨b0 :: b1 :: b2 :: b3 :: rest, bad⟩ = ((val4 b0 b1 b2 b3 : Int), ⟨rest, bad⟩) := by simp only [Rd.num]; rw [if_neg hm]
          rw [this]
          (repeat (first | (apply Ops.q; rfl; rfl) | (apply Ops.gyB; rfl; rfl) | (apply Ops.gnB; rfl; decide) | (apply Ops.add; rfl; rfl; (constructor <;> omega)) | (apply Ops.sub; rfl; rfl; (constructor <;> omega)) | (apply Ops.rem; rfl; rfl; omega; omega) | (apply Ops.quo; rfl; rfl; (constructor <;> omega); omega) | (apply Ops.ld; rfl; (first | exact m0 | exact m1 | exact m2 | exact m3 | exact m4 | exact m5 | exact m6); rfl) | (apply Ops.st0; rfl; rfl; rfl; rfl; (first | exact u0 | exact u1 | exact u2 | exact u3 | exact u4 | exact u5); focus (simp; done)) | refine Ops.nil ?_ | refine Segs.nil ?_ | (apply Segs.oneS; rfl) | refine Run.seq ?_ | refine Run.reg ?_ | refine Run.block ?_ | refine Run.blk ?_ | refine Run.skip ?_))
          refine Ops.pE (v' := .int .i64 (val4 b0 b1 b2 b3 : Int)) rfl (by rw [wrap_i64 (by omega) (by omega)]) ?_
          (repeat (first | (apply Ops.q; rfl; rfl) | (apply Ops.gyB; rfl; rfl) | (apply Ops.gnB; rfl; decide) | (apply Ops.add; rfl; rfl; (constructor <;> omega)) | (apply Ops.sub; rfl; rfl; (constructor <;> omega)) | (apply Ops.rem; rfl; rfl; omega; omega) | (apply Ops.quo; rfl; rfl; (constructor <;> omega); omega) | (apply Ops.ld; rfl; (first | exact m0 | exact m1 | exact m2 | exact m3 | exact m4 | exact m5 | exact m6); rfl) | (apply Ops.st0; rfl; rfl; rfl; rfl; (first | exact u0 | exact u1 | exact u2 | exact u3 | exact u4 | exact u5); focus (simp; done)) | refine Ops.nil ?_ | refine Segs.nil ?_ | (apply Segs.oneS; rfl) | refine Run.seq ?_ | refine Run.reg ?_ | refine Run.block ?_ | refine Run.blk ?_ | refine Run.skip ?_))
          by_cases hr : rest = []
          · subst hr
            exact Run.ret1 Try.func36 rfl rfl (fun h q => take_sub (.cons s0 .nil) h (fold_grp (I := RdI r ⟨[], bad⟩) (.cons s0 .nil) ⟨a', c - Int.toNat 4, .inl ⟨rfl, rfl⟩⟩ h q)) ⟨rfl, rfl⟩
          · have ha2 : a' = some ⟨b, o + 4, none⟩ := by
              rcases ha' with x | x
              · rw [x]; rfl
              · exact absurd (List.length_eq_zero_iff.1 x) hr
            subst ha2
            refine Run.ret1 Try.func36 rfl rfl (fold_grp (I := RdI r ⟨rest, bad⟩) (.cons s0 (.cons s0 .nil)) ⟨_, c - Int.toNat 4, .inr ⟨b, o + 4, L, T, fz, rfl, ?_, ?_, ?_, rfl⟩⟩) ⟨rfl, rfl⟩
            · dsimp only; omega
            · dsimp only; show rest.length ≤ c - 4; omega
            · have := congrArg (fun l => l.drop 4) ht
              simp only [List.drop_take, List.drop_drop, hlenN] at this
              simpa [bvs] using this

end Eng
end Go.Proofs.Ytbhlolmglieehaa
