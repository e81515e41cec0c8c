/- Parts behind one another; sums. -/
import Derived.Test.YtbhlolmglieehaaRec2
set_option linter.unusedSimpArgs false
set_option linter.unusedVariables false
namespace Go.Proofs.Ytbhlolmglieehaa

theorem flatten_take_succ {bss : List Bytes} {i : Nat} {bs : Bytes} (h : bss[i]? = some bs) : (bss.take (i + 1)).flatten = (bss.take i).flatten ++ bs := by
  have hi : i < bss.length := by
    rcases Nat.lt_or_ge i bss.length with x | x
    · exact x
    · rw [List.getElem?_eq_none x] at h; cases h
  rw [List.getElem?_eq_getElem hi] at h
  obtain rfl := Option.some.inj h
  rw [List.take_succ_eq_append_getElem hi, List.flatten_append, List.flatten_singleton]

theorem flatten_take_le (bss : List Bytes) (i : Nat) : ((bss.take i).flatten).length ≤ bss.flatten.length := by
  have : bss.flatten = (bss.take i).flatten ++ (bss.drop i).flatten := by rw [← List.flatten_append, List.take_append_drop]
  rw [this, List.length_append]; omega

theorem part_le {bss : List Bytes} {i : Nat} {bs : Bytes} (h : bss[i]? = some bs) : bs.length ≤ bss.flatten.length := by
  have h1 := flatten_take_succ h
  have h2 := flatten_take_le bss (i + 1)
  rw [h1, List.length_append] at h2; omega

theorem bvs_app (a b : Bytes) : bvs (a ++ b) = bvs a ++ bvs b := by simp [bvs]

namespace Eng
attribute [local irreducible] Ops Segs Run Spec

theorem rec_Pack (v : Value) (bss : List Bytes) (F : Hp) (hb : RdBB F v bss) (hn : bss.length ≤ 1099511627776) (ht : bss.flatten.length ≤ 1099511627776) :
    Spec Try.prog 39 [v].toArray F [] fun v H => ∃ a c, v = .slice a bss.flatten.length c ∧ H = [OwnS a bss.flatten.length c 1 5 (bvs bss.flatten)] := by
  refine Spec.enter (n := 17) Try.func39 ok_rec_Pack rfl (by simp) ?_
  unfold ec_rec_Pack
  simp only [argFr, Nat.reduceAdd]
  obtain ⟨oa, oc, rfl, hb⟩ := hb
  (repeat (first | (apply Ops.q; rfl; rfl) | (apply Ops.gyB; rfl; rfl) | (apply Ops.gnB; rfl; decide) | (apply Ops.add; rfl; rfl; (constructor <;> omega)) | (apply Ops.sub; rfl; rfl; (constructor <;> omega)) | (apply Ops.rem; rfl; rfl; omega; omega) | (apply Ops.quo; rfl; rfl; (constructor <;> omega); omega) | (apply Ops.ld; rfl; (first | exact m0 | exact m1 | exact m2 | exact m3 | exact m4 | exact m5 | exact m6); rfl) | (apply Ops.st0; rfl; rfl; rfl; rfl; (first | exact u0 | exact u1 | exact u2 | exact u3 | exact u4 | exact u5); focus (simp; done)) | refine Ops.nil ?_ | refine Segs.nil ?_ | (apply Segs.oneS; rfl) | refine Run.seq ?_ | refine Run.reg ?_ | refine Run.block ?_ | refine Run.blk ?_ | refine Run.skip ?_))
  refine Run.loopI (ι := Nat × Option Addr × Nat) (fun x => bss.length - x.1) (fun x => x.1 ≤ bss.length)
    (fun x => [(8, .int .i64 x.1), (7, .int .i64 bss.length), (6, .slice oa bss.length oc), (3, .slice x.2.1 ((bss.take x.1).flatten).length x.2.2)])
    (fun x => [OwnS x.2.1 ((bss.take x.1).flatten).length x.2.2 1 5 (bvs ((bss.take x.1).flatten))])
    (0, none, 0) (Nat.zero_le _) (.cons rfl (.cons rfl (.cons rfl (.cons rfl .nil)))) own_new ?_
  rintro ⟨i, a, c⟩ hi ih
  dsimp only at hi ih ⊢
  unfold ec_rec_Pack_L0
  (repeat (first | (apply Ops.q; rfl; rfl) | (apply Ops.gyB; rfl; rfl) | (apply Ops.gnB; rfl; decide) | (apply Ops.add; rfl; rfl; (constructor <;> omega)) | (apply Ops.sub; rfl; rfl; (constructor <;> omega)) | (apply Ops.rem; rfl; rfl; omega; omega) | (apply Ops.quo; rfl; rfl; (constructor <;> omega); omega) | (apply Ops.ld; rfl; (first | exact m0 | exact m1 | exact m2 | exact m3 | exact m4 | exact m5 | exact m6); rfl) | (apply Ops.st0; rfl; rfl; rfl; rfl; (first | exact u0 | exact u1 | exact u2 | exact u3 | exact u4 | exact u5); focus (simp; done)) | refine Ops.nil ?_ | refine Segs.nil ?_ | (apply Segs.oneS; rfl) | refine Run.seq ?_ | refine Run.reg ?_ | refine Run.block ?_ | refine Run.blk ?_ | refine Run.skip ?_))
  refine Run.condD rfl (fun hlt => ?_) (fun hge => ?_)
  · have hlt' : i < bss.length := by omega
    have hel : bss[i]? = some bss[i] := List.getElem?_eq_getElem hlt'
    rcases hb with hb | ⟨ob, o, L, T, fz, rfl, hF, hl, hrd⟩
    · rw [hb] at hlt'; simp at hlt'
    obtain ⟨x, hx, hrx⟩ := hrd i _ hel
    have hpl := part_le hel
    have hfl := flatten_take_succ hel
    have hfle := flatten_take_le bss i
    generalize bss[i] = bs at *
    (repeat (first | (apply Ops.q; rfl; rfl) | (apply Ops.gyB; rfl; rfl) | (apply Ops.gnB; rfl; decide) | (apply Ops.add; rfl; rfl; (constructor <;> omega)) | (apply Ops.sub; rfl; rfl; (constructor <;> omega)) | (apply Ops.rem; rfl; rfl; omega; omega) | (apply Ops.quo; rfl; rfl; (constructor <;> omega); omega) | (apply Ops.ld; rfl; (first | exact m0 | exact m1 | exact m2 | exact m3 | exact m4 | exact m5 | exact m6); rfl) | (apply Ops.st0; rfl; rfl; rfl; rfl; (first | exact u0 | exact u1 | exact u2 | exact u3 | exact u4 | exact u5); focus (simp; done)) | refine Ops.nil ?_ | refine Segs.nil ?_ | (apply Segs.oneS; rfl) | refine Run.seq ?_ | refine Run.reg ?_ | refine Run.block ?_ | refine Run.blk ?_ | refine Run.skip ?_))
    refine Ops.ixS rfl rfl ⟨by omega, by omega⟩ ?_
    refine Ops.ldF rfl hF (by rw [Int.toNat_natCast, Nat.mul_one]; exact hx) ?_
    (repeat (first | (apply Ops.q; rfl; rfl) | (apply Ops.gyB; rfl; rfl) | (apply Ops.gnB; rfl; decide) | (apply Ops.add; rfl; rfl; (constructor <;> omega)) | (apply Ops.sub; rfl; rfl; (constructor <;> omega)) | (apply Ops.rem; rfl; rfl; omega; omega) | (apply Ops.quo; rfl; rfl; (constructor <;> omega); omega) | (apply Ops.ld; rfl; (first | exact m0 | exact m1 | exact m2 | exact m3 | exact m4 | exact m5 | exact m6); rfl) | (apply Ops.st0; rfl; rfl; rfl; rfl; (first | exact u0 | exact u1 | exact u2 | exact u3 | exact u4 | exact u5); focus (simp; done)) | refine Ops.nil ?_ | refine Segs.nil ?_ | (apply Segs.oneS; rfl) | refine Run.seq ?_ | refine Run.reg ?_ | refine Run.block ?_ | refine Run.blk ?_ | refine Run.skip ?_))
    refine Ops.app rfl rfl hrx.len s0 (fun w h q f => hrx.shows w h q f) (bvs_one bs) (by rw [bvs_len]; simp) (by simp) (by omega) fun a' c' => ?_
    (repeat (first | (apply Ops.q; rfl; rfl) | (apply Ops.gyB; rfl; rfl) | (apply Ops.gnB; rfl; decide) | (apply Ops.add; rfl; rfl; (constructor <;> omega)) | (apply Ops.sub; rfl; rfl; (constructor <;> omega)) | (apply Ops.rem; rfl; rfl; omega; omega) | (apply Ops.quo; rfl; rfl; (constructor <;> omega); omega) | (apply Ops.ld; rfl; (first | exact m0 | exact m1 | exact m2 | exact m3 | exact m4 | exact m5 | exact m6); rfl) | (apply Ops.st0; rfl; rfl; rfl; rfl; (first | exact u0 | exact u1 | exact u2 | exact u3 | exact u4 | exact u5); focus (simp; done)) | refine Ops.nil ?_ | refine Segs.nil ?_ | (apply Segs.oneS; rfl) | refine Run.seq ?_ | refine Run.reg ?_ | refine Run.block ?_ | refine Run.blk ?_ | refine Run.skip ?_))
    refine Run.lp (Run.again (ih (i + 1, a', c') (by dsimp only; omega) (by dsimp only; omega)) (.cons rfl (.cons rfl (.cons rfl (.cons ?_ .nil)))) ?_)
    · dsimp only; rw [hfl, List.length_append]; rfl
    · dsimp only; rw [hfl, List.length_append, bvs_app]; exact fun _ h => h
  · have : i = bss.length := by omega
    subst this
    rw [List.take_length] at *
    refine Run.exit rfl ?_
    (repeat (first | (apply Ops.q; rfl; rfl) | (apply Ops.gyB; rfl; rfl) | (apply Ops.gnB; rfl; decide) | (apply Ops.add; rfl; rfl; (constructor <;> omega)) | (apply Ops.sub; rfl; rfl; (constructor <;> omega)) | (apply Ops.rem; rfl; rfl; omega; omega) | (apply Ops.quo; rfl; rfl; (constructor <;> omega); omega) | (apply Ops.ld; rfl; (first | exact m0 | exact m1 | exact m2 | exact m3 | exact m4 | exact m5 | exact m6); rfl) | (apply Ops.st0; rfl; rfl; rfl; rfl; (first | exact u0 | exact u1 | exact u2 | exact u3 | exact u4 | exact u5); focus (simp; done)) | refine Ops.nil ?_ | refine Segs.nil ?_ | (apply Segs.oneS; rfl) | refine Run.seq ?_ | refine Run.reg ?_ | refine Run.block ?_ | refine Run.blk ?_ | refine Run.skip ?_))
    exact Run.ret1 Try.func39 rfl rfl (fun h q => q) ⟨a, c, rfl, rfl⟩

theorem crc_Of (v : Value) (bss : List Bytes) (F : Hp) (hb : RdBB F v bss) (hn : bss.length ≤ 1099511627776) (ht : bss.flatten.length ≤ 1099511627776) :
    Spec Try.prog 33 [v].toArray F [] fun v H => v = .int .u32 (crcOf bss.flatten) ∧ H = [] := by
  refine Spec.enter (n := 39) Try.func33 ok_crc_Of rfl (by simp) ?_
  unfold ec_crc_Of
  simp only [argFr, Nat.reduceAdd]
  obtain ⟨oa, oc, rfl, hb⟩ := hb
  (repeat (first | (apply Ops.q; rfl; rfl) | (apply Ops.gyB; rfl; rfl) | (apply Ops.gnB; rfl; decide) | (apply Ops.add; rfl; rfl; (constructor <;> omega)) | (apply Ops.sub; rfl; rfl; (constructor <;> omega)) | (apply Ops.rem; rfl; rfl; omega; omega) | (apply Ops.quo; rfl; rfl; (constructor <;> omega); omega) | (apply Ops.ld; rfl; (first | exact m0 | exact m1 | exact m2 | exact m3 | exact m4 | exact m5 | exact m6); rfl) | (apply Ops.st0; rfl; rfl; rfl; rfl; (first | exact u0 | exact u1 | exact u2 | exact u3 | exact u4 | exact u5); focus (simp; done)) | refine Ops.nil ?_ | refine Segs.nil ?_ | (apply Segs.oneS; rfl) | refine Run.seq ?_ | refine Run.reg ?_ | refine Run.block ?_ | refine Run.blk ?_ | refine Run.skip ?_))
  refine Run.loopI (ι := Nat) (fun x => bss.length - x) (fun x => x ≤ bss.length)
    (fun x => [(10, .int .i64 x), (9, .int .i64 bss.length), (8, .slice oa bss.length oc), (3, .int .u32 (((bss.take x).flatten.foldl crcByte 4294967295 : Nat) : Int))]) (fun _ => [])
    0 (Nat.zero_le _) (.cons rfl (.cons rfl (.cons rfl (.cons rfl .nil)))) (fun _ h => h) ?_
  rintro i hi ih
  try dsimp only at hi ih ⊢
  unfold ec_crc_Of_L2
  (repeat (first | (apply Ops.q; rfl; rfl) | (apply Ops.gyB; rfl; rfl) | (apply Ops.gnB; rfl; decide) | (apply Ops.add; rfl; rfl; (constructor <;> omega)) | (apply Ops.sub; rfl; rfl; (constructor <;> omega)) | (apply Ops.rem; rfl; rfl; omega; omega) | (apply Ops.quo; rfl; rfl; (constructor <;> omega); omega) | (apply Ops.ld; rfl; (first | exact m0 | exact m1 | exact m2 | exact m3 | exact m4 | exact m5 | exact m6); rfl) | (apply Ops.st0; rfl; rfl; rfl; rfl; (first | exact u0 | exact u1 | exact u2 | exact u3 | exact u4 | exact u5); focus (simp; done)) | refine Ops.nil ?_ | refine Segs.nil ?_ | (apply Segs.oneS; rfl) | refine Run.seq ?_ | refine Run.reg ?_ | refine Run.block ?_ | refine Run.blk ?_ | refine Run.skip ?_))
  refine Run.condD rfl (fun hlt => ?_) (fun hge => ?_)
  · have hlt' : i < bss.length := by omega
    have hel : bss[i]? = some bss[i] := List.getElem?_eq_getElem hlt'
    rcases hb with hb | ⟨ob, o, L, T, fz, rfl, hF, hl, hrd⟩
    · rw [hb] at hlt'; simp at hlt'
    obtain ⟨x, hx, hrx⟩ := hrd i _ hel
    have hpl := part_le hel
    have hfl := flatten_take_succ hel
    generalize bss[i] = bs at *
    obtain ⟨ba, bc, rfl, hbs⟩ := hrx
    have hc0 : (bss.take i).flatten.foldl crcByte 4294967295 < 4294967296 := crcFold_lt _ (by decide)
    have hnext : (bss.take (i + 1)).flatten.foldl crcByte 4294967295 = bs.foldl crcByte ((bss.take i).flatten.foldl crcByte 4294967295) := by rw [hfl, List.foldl_append]
    have ih' := ih (i + 1) (by omega) (by omega)
    rw [hnext] at ih'
    clear ih hnext hfl
    generalize (bss.take i).flatten.foldl crcByte 4294967295 = c0 at *
    (repeat (first | (apply Ops.q; rfl; rfl) | (apply Ops.gyB; rfl; rfl) | (apply Ops.gnB; rfl; decide) | (apply Ops.add; rfl; rfl; (constructor <;> omega)) | (apply Ops.sub; rfl; rfl; (constructor <;> omega)) | (apply Ops.rem; rfl; rfl; omega; omega) | (apply Ops.quo; rfl; rfl; (constructor <;> omega); omega) | (apply Ops.ld; rfl; (first | exact m0 | exact m1 | exact m2 | exact m3 | exact m4 | exact m5 | exact m6); rfl) | (apply Ops.st0; rfl; rfl; rfl; rfl; (first | exact u0 | exact u1 | exact u2 | exact u3 | exact u4 | exact u5); focus (simp; done)) | refine Ops.nil ?_ | refine Segs.nil ?_ | (apply Segs.oneS; rfl) | refine Run.seq ?_ | refine Run.reg ?_ | refine Run.block ?_ | refine Run.blk ?_ | refine Run.skip ?_))
    refine Ops.ixS rfl rfl ⟨by omega, by omega⟩ ?_
    refine Ops.ldF rfl hF (by rw [Int.toNat_natCast, Nat.mul_one]; exact hx) ?_
    (repeat (first | (apply Ops.q; rfl; rfl) | (apply Ops.gyB; rfl; rfl) | (apply Ops.gnB; rfl; decide) | (apply Ops.add; rfl; rfl; (constructor <;> omega)) | (apply Ops.sub; rfl; rfl; (constructor <;> omega)) | (apply Ops.rem; rfl; rfl; omega; omega) | (apply Ops.quo; rfl; rfl; (constructor <;> omega); omega) | (apply Ops.ld; rfl; (first | exact m0 | exact m1 | exact m2 | exact m3 | exact m4 | exact m5 | exact m6); rfl) | (apply Ops.st0; rfl; rfl; rfl; rfl; (first | exact u0 | exact u1 | exact u2 | exact u3 | exact u4 | exact u5); focus (simp; done)) | refine Ops.nil ?_ | refine Segs.nil ?_ | (apply Segs.oneS; rfl) | refine Run.seq ?_ | refine Run.reg ?_ | refine Run.block ?_ | refine Run.blk ?_ | refine Run.skip ?_))
    refine Run.loopI (ι := Nat) (fun x => bs.length - x) (fun x => x ≤ bs.length)
      (fun x => [(16, .int .i64 x), (15, .int .i64 bs.length), (14, .slice ba bs.length bc), (3, .int .u32 (((bs.take x).foldl crcByte c0 : Nat) : Int)), (10, .int .i64 i), (9, .int .i64 bss.length), (8, .slice (some ⟨ob, o, none⟩) bss.length oc)]) (fun _ => [])
      0 (Nat.zero_le _) (.cons rfl (.cons rfl (.cons rfl (.cons rfl (.cons rfl (.cons rfl (.cons rfl .nil))))))) (fun _ h => h) ?_
    rintro j hj ihj
    try dsimp only at hj ihj ⊢
    unfold ec_crc_Of_L1
    (repeat (first | (apply Ops.q; rfl; rfl) | (apply Ops.gyB; rfl; rfl) | (apply Ops.gnB; rfl; decide) | (apply Ops.add; rfl; rfl; (constructor <;> omega)) | (apply Ops.sub; rfl; rfl; (constructor <;> omega)) | (apply Ops.rem; rfl; rfl; omega; omega) | (apply Ops.quo; rfl; rfl; (constructor <;> omega); omega) | (apply Ops.ld; rfl; (first | exact m0 | exact m1 | exact m2 | exact m3 | exact m4 | exact m5 | exact m6); rfl) | (apply Ops.st0; rfl; rfl; rfl; rfl; (first | exact u0 | exact u1 | exact u2 | exact u3 | exact u4 | exact u5); focus (simp; done)) | refine Ops.nil ?_ | refine Segs.nil ?_ | (apply Segs.oneS; rfl) | refine Run.seq ?_ | refine Run.reg ?_ | refine Run.block ?_ | refine Run.blk ?_ | refine Run.skip ?_))
    refine Run.condD rfl (fun hlt2 => ?_) (fun hge2 => ?_)
    · have hlt2' : j < bs.length := by omega
      rcases hbs with hbs | ⟨cb, o2, L2, T2, fz2, rfl, hF2, hl2, ht2⟩
      · rw [hbs] at hlt2'; simp at hlt2'
      have hel2 : bs[j]? = some bs[j] := List.getElem?_eq_getElem hlt2'
      have g := at_of ht2 hlt2' hel2
      have hnext : (bs.take (j + 1)).foldl crcByte c0 = crcByte ((bs.take j).foldl crcByte c0) bs[j] := by
        rw [List.take_succ_eq_append_getElem hlt2', List.foldl_append]; rfl
      generalize bs[j] = u at *
      have hc1 : (bs.take j).foldl crcByte c0 < 4294967296 := crcFold_lt _ hc0
      have hu := u.toNat_lt
      have ihj' := ihj (j + 1) (by omega) (by omega)
      rw [hnext] at ihj'
      clear ihj hnext
      generalize (bs.take j).foldl crcByte c0 = c1 at *
      have hcu : c1 ^^^ u.toNat < 4294967296 := Nat.xor_lt_two_pow (n := 32) hc1 (by omega)
      (repeat (first | (apply Ops.q; rfl; rfl) | (apply Ops.gyB; rfl; rfl) | (apply Ops.gnB; rfl; decide) | (apply Ops.add; rfl; rfl; (constructor <;> omega)) | (apply Ops.sub; rfl; rfl; (constructor <;> omega)) | (apply Ops.rem; rfl; rfl; omega; omega) | (apply Ops.quo; rfl; rfl; (constructor <;> omega); omega) | (apply Ops.ld; rfl; (first | exact m0 | exact m1 | exact m2 | exact m3 | exact m4 | exact m5 | exact m6); rfl) | (apply Ops.st0; rfl; rfl; rfl; rfl; (first | exact u0 | exact u1 | exact u2 | exact u3 | exact u4 | exact u5); focus (simp; done)) | refine Ops.nil ?_ | refine Segs.nil ?_ | (apply Segs.oneS; rfl) | refine Run.seq ?_ | refine Run.reg ?_ | refine Run.block ?_ | refine Run.blk ?_ | refine Run.skip ?_))
      refine Ops.ixS rfl rfl ⟨by omega, by omega⟩ ?_
      refine Ops.ldF rfl hF2 (by rw [Int.toNat_natCast, Nat.mul_one]; exact g) ?_
      (repeat (first | (apply Ops.q; rfl; rfl) | (apply Ops.gyB; rfl; rfl) | (apply Ops.gnB; rfl; decide) | (apply Ops.add; rfl; rfl; (constructor <;> omega)) | (apply Ops.sub; rfl; rfl; (constructor <;> omega)) | (apply Ops.rem; rfl; rfl; omega; omega) | (apply Ops.quo; rfl; rfl; (constructor <;> omega); omega) | (apply Ops.ld; rfl; (first | exact m0 | exact m1 | exact m2 | exact m3 | exact m4 | exact m5 | exact m6); rfl) | (apply Ops.st0; rfl; rfl; rfl; rfl; (first | exact u0 | exact u1 | exact u2 | exact u3 | exact u4 | exact u5); focus (simp; done)) | refine Ops.nil ?_ | refine Segs.nil ?_ | (apply Segs.oneS; rfl) | refine Run.seq ?_ | refine Run.reg ?_ | refine Run.block ?_ | refine Run.blk ?_ | refine Run.skip ?_))
      refine Ops.pE (v' := .int .u32 (u.toNat : Int)) rfl (by rw [wrap_u32 (by omega) (by omega)]) ?_
      refine Ops.xor (k := .u32) rfl rfl rfl rfl rfl (by simp [IntKind.bits]; omega) (by simp [IntKind.bits]; omega) ?_
      (repeat (first | (apply Ops.q; rfl; rfl) | (apply Ops.gyB; rfl; rfl) | (apply Ops.gnB; rfl; decide) | (apply Ops.add; rfl; rfl; (constructor <;> omega)) | (apply Ops.sub; rfl; rfl; (constructor <;> omega)) | (apply Ops.rem; rfl; rfl; omega; omega) | (apply Ops.quo; rfl; rfl; (constructor <;> omega); omega) | (apply Ops.ld; rfl; (first | exact m0 | exact m1 | exact m2 | exact m3 | exact m4 | exact m5 | exact m6); rfl) | (apply Ops.st0; rfl; rfl; rfl; rfl; (first | exact u0 | exact u1 | exact u2 | exact u3 | exact u4 | exact u5); focus (simp; done)) | refine Ops.nil ?_ | refine Segs.nil ?_ | (apply Segs.oneS; rfl) | refine Run.seq ?_ | refine Run.reg ?_ | refine Run.block ?_ | refine Run.blk ?_ | refine Run.skip ?_))
      unfold crcByte at ihj'
      refine Run.loopI (ι := Nat × Nat) (fun x => x.1) (fun x => x.1 ≤ 8 ∧ x.2 < 4294967296 ∧ crcBits x.1 x.2 = crcBits 8 (c1 ^^^ u.toNat))
        (fun x => [(24, .int .i64 ((8 : Int) - x.1)), (3, .int .u32 (x.2 : Int)), (16, .int .i64 j), (15, .int .i64 bs.length), (14, .slice (some ⟨cb, o2, none⟩) bs.length bc), (10, .int .i64 i), (9, .int .i64 bss.length), (8, .slice (some ⟨ob, o, none⟩) bss.length oc)]) (fun _ => [])
        (8, c1 ^^^ u.toNat) ⟨by omega, hcu, rfl⟩ (.cons rfl (.cons rfl (.cons rfl (.cons rfl (.cons rfl (.cons rfl (.cons rfl (.cons rfl .nil)))))))) (fun _ h => h) ?_
      rintro ⟨n, cc⟩ ⟨hn8, hcc, hcr⟩ ihn
      dsimp only at hn8 hcc hcr ihn ⊢
      unfold ec_crc_Of_L0
      (repeat (first | (apply Ops.q; rfl; rfl) | (apply Ops.gyB; rfl; rfl) | (apply Ops.gnB; rfl; decide) | (apply Ops.add; rfl; rfl; (constructor <;> omega)) | (apply Ops.sub; rfl; rfl; (constructor <;> omega)) | (apply Ops.rem; rfl; rfl; omega; omega) | (apply Ops.quo; rfl; rfl; (constructor <;> omega); omega) | (apply Ops.ld; rfl; (first | exact m0 | exact m1 | exact m2 | exact m3 | exact m4 | exact m5 | exact m6); rfl) | (apply Ops.st0; rfl; rfl; rfl; rfl; (first | exact u0 | exact u1 | exact u2 | exact u3 | exact u4 | exact u5); focus (simp; done)) | refine Ops.nil ?_ | refine Segs.nil ?_ | (apply Segs.oneS; rfl) | refine Run.seq ?_ | refine Run.reg ?_ | refine Run.block ?_ | refine Run.blk ?_ | refine Run.skip ?_))
      refine Run.condD rfl (fun hlt3 => ?_) (fun hge3 => ?_)
      · obtain ⟨n, rfl⟩ : ∃ m, n = m + 1 := ⟨n - 1, by omega⟩
        simp only [crcBits] at hcr
        (repeat (first | (apply Ops.q; rfl; rfl) | (apply Ops.gyB; rfl; rfl) | (apply Ops.gnB; rfl; decide) | (apply Ops.add; rfl; rfl; (constructor <;> omega)) | (apply Ops.sub; rfl; rfl; (constructor <;> omega)) | (apply Ops.rem; rfl; rfl; omega; omega) | (apply Ops.quo; rfl; rfl; (constructor <;> omega); omega) | (apply Ops.ld; rfl; (first | exact m0 | exact m1 | exact m2 | exact m3 | exact m4 | exact m5 | exact m6); rfl) | (apply Ops.st0; rfl; rfl; rfl; rfl; (first | exact u0 | exact u1 | exact u2 | exact u3 | exact u4 | exact u5); focus (simp; done)) | refine Ops.nil ?_ | refine Segs.nil ?_ | (apply Segs.oneS; rfl) | refine Run.seq ?_ | refine Run.reg ?_ | refine Run.block ?_ | refine Run.blk ?_ | refine Run.skip ?_))
        refine Ops.and (k := .u32) (b := 1) rfl rfl rfl rfl rfl (by simp [IntKind.bits]; omega) (by simp [IntKind.bits]) ?_
        rw [Nat.and_one_is_mod]
        (repeat (first | (apply Ops.q; rfl; rfl) | (apply Ops.gyB; rfl; rfl) | (apply Ops.gnB; rfl; decide) | (apply Ops.add; rfl; rfl; (constructor <;> omega)) | (apply Ops.sub; rfl; rfl; (constructor <;> omega)) | (apply Ops.rem; rfl; rfl; omega; omega) | (apply Ops.quo; rfl; rfl; (constructor <;> omega); omega) | (apply Ops.ld; rfl; (first | exact m0 | exact m1 | exact m2 | exact m3 | exact m4 | exact m5 | exact m6); rfl) | (apply Ops.st0; rfl; rfl; rfl; rfl; (first | exact u0 | exact u1 | exact u2 | exact u3 | exact u4 | exact u5); focus (simp; done)) | refine Ops.nil ?_ | refine Segs.nil ?_ | (apply Segs.oneS; rfl) | refine Run.seq ?_ | refine Run.reg ?_ | refine Run.block ?_ | refine Run.blk ?_ | refine Run.skip ?_))
        refine Run.condD rfl (fun hbit => ?_) (fun hbit => ?_)
        · have hb1 : crcBit cc = (cc / 2) ^^^ 3988292384 := by unfold crcBit; rw [if_pos (by omega)]
          rw [hb1] at hcr
          (repeat (first | (apply Ops.q; rfl; rfl) | (apply Ops.gyB; rfl; rfl) | (apply Ops.gnB; rfl; decide) | (apply Ops.add; rfl; rfl; (constructor <;> omega)) | (apply Ops.sub; rfl; rfl; (constructor <;> omega)) | (apply Ops.rem; rfl; rfl; omega; omega) | (apply Ops.quo; rfl; rfl; (constructor <;> omega); omega) | (apply Ops.ld; rfl; (first | exact m0 | exact m1 | exact m2 | exact m3 | exact m4 | exact m5 | exact m6); rfl) | (apply Ops.st0; rfl; rfl; rfl; rfl; (first | exact u0 | exact u1 | exact u2 | exact u3 | exact u4 | exact u5); focus (simp; done)) | refine Ops.nil ?_ | refine Segs.nil ?_ | (apply Segs.oneS; rfl) | refine Run.seq ?_ | refine Run.reg ?_ | refine Run.block ?_ | refine Run.blk ?_ | refine Run.skip ?_))
          refine Ops.shr (j := 1) rfl rfl rfl (by decide) ?_
          rw [show cc >>> 1 = cc / 2 by rw [Nat.shiftRight_succ, Nat.shiftRight_zero]]
          refine Ops.xor (k := .u32) (b := 3988292384) rfl rfl rfl rfl rfl (by simp [IntKind.bits]; omega) (by simp [IntKind.bits]) ?_
          (repeat (first | (apply Ops.q; rfl; rfl) | (apply Ops.gyB; rfl; rfl) | (apply Ops.gnB; rfl; decide) | (apply Ops.add; rfl; rfl; (constructor <;> omega)) | (apply Ops.sub; rfl; rfl; (constructor <;> omega)) | (apply Ops.rem; rfl; rfl; omega; omega) | (apply Ops.quo; rfl; rfl; (constructor <;> omega); omega) | (apply Ops.ld; rfl; (first | exact m0 | exact m1 | exact m2 | exact m3 | exact m4 | exact m5 | exact m6); rfl) | (apply Ops.st0; rfl; rfl; rfl; rfl; (first | exact u0 | exact u1 | exact u2 | exact u3 | exact u4 | exact u5); focus (simp; done)) | refine Ops.nil ?_ | refine Segs.nil ?_ | (apply Segs.oneS; rfl) | refine Run.seq ?_ | refine Run.reg ?_ | refine Run.block ?_ | refine Run.blk ?_ | refine Run.skip ?_))
          refine Run.lp (Run.again (ihn (n, (cc / 2) ^^^ 3988292384) (by dsimp only; omega) ⟨by dsimp only; omega, Nat.xor_lt_two_pow (n := 32) (by omega) (by decide), hcr⟩) (.cons ?_ (.cons rfl (.cons rfl (.cons rfl (.cons rfl (.cons rfl (.cons rfl (.cons rfl .nil)))))))) (fun _ h => h))
          rw [show (8 : Int) - ((n : Nat) : Int) = 8 - ((n + 1 : Nat) : Int) + 1 by omega]; rfl
        · have hb1 : crcBit cc = cc / 2 := by unfold crcBit; rw [if_neg (by omega)]
          rw [hb1] at hcr
          (repeat (first | (apply Ops.q; rfl; rfl) | (apply Ops.gyB; rfl; rfl) | (apply Ops.gnB; rfl; decide) | (apply Ops.add; rfl; rfl; (constructor <;> omega)) | (apply Ops.sub; rfl; rfl; (constructor <;> omega)) | (apply Ops.rem; rfl; rfl; omega; omega) | (apply Ops.quo; rfl; rfl; (constructor <;> omega); omega) | (apply Ops.ld; rfl; (first | exact m0 | exact m1 | exact m2 | exact m3 | exact m4 | exact m5 | exact m6); rfl) | (apply Ops.st0; rfl; rfl; rfl; rfl; (first | exact u0 | exact u1 | exact u2 | exact u3 | exact u4 | exact u5); focus (simp; done)) | refine Ops.nil ?_ | refine Segs.nil ?_ | (apply Segs.oneS; rfl) | refine Run.seq ?_ | refine Run.reg ?_ | refine Run.block ?_ | refine Run.blk ?_ | refine Run.skip ?_))
          refine Ops.shr (j := 1) rfl rfl rfl (by decide) ?_
          rw [show cc >>> 1 = cc / 2 by rw [Nat.shiftRight_succ, Nat.shiftRight_zero]]
          (repeat (first | (apply Ops.q; rfl; rfl) | (apply Ops.gyB; rfl; rfl) | (apply Ops.gnB; rfl; decide) | (apply Ops.add; rfl; rfl; (constructor <;> omega)) | (apply Ops.sub; rfl; rfl; (constructor <;> omega)) | (apply Ops.rem; rfl; rfl; omega; omega) | (apply Ops.quo; rfl; rfl; (constructor <;> omega); omega) | (apply Ops.ld; rfl; (first | exact m0 | exact m1 | exact m2 | exact m3 | exact m4 | exact m5 | exact m6); rfl) | (apply Ops.st0; rfl; rfl; rfl; rfl; (first | exact u0 | exact u1 | exact u2 | exact u3 | exact u4 | exact u5); focus (simp; done)) | refine Ops.nil ?_ | refine Segs.nil ?_ | (apply Segs.oneS; rfl) | refine Run.seq ?_ | refine Run.reg ?_ | refine Run.block ?_ | refine Run.blk ?_ | refine Run.skip ?_))
          refine Run.lp (Run.again (ihn (n, cc / 2) (by dsimp only; omega) ⟨by dsimp only; omega, by dsimp only; omega, hcr⟩) (.cons ?_ (.cons rfl (.cons rfl (.cons rfl (.cons rfl (.cons rfl (.cons rfl (.cons rfl .nil)))))))) (fun _ h => h))
          rw [show (8 : Int) - ((n : Nat) : Int) = 8 - ((n + 1 : Nat) : Int) + 1 by omega]; rfl
      · have : n = 0 := by omega
        subst this
        simp only [crcBits] at hcr
        subst hcr
        refine Run.exit rfl ?_
        (repeat (first | (apply Ops.q; rfl; rfl) | (apply Ops.gyB; rfl; rfl) | (apply Ops.gnB; rfl; decide) | (apply Ops.add; rfl; rfl; (constructor <;> omega)) | (apply Ops.sub; rfl; rfl; (constructor <;> omega)) | (apply Ops.rem; rfl; rfl; omega; omega) | (apply Ops.quo; rfl; rfl; (constructor <;> omega); omega) | (apply Ops.ld; rfl; (first | exact m0 | exact m1 | exact m2 | exact m3 | exact m4 | exact m5 | exact m6); rfl) | (apply Ops.st0; rfl; rfl; rfl; rfl; (first | exact u0 | exact u1 | exact u2 | exact u3 | exact u4 | exact u5); focus (simp; done)) | refine Ops.nil ?_ | refine Segs.nil ?_ | (apply Segs.oneS; rfl) | refine Run.seq ?_ | refine Run.reg ?_ | refine Run.block ?_ | refine Run.blk ?_ | refine Run.skip ?_))
        exact Run.lp (Run.again ihj' (.cons rfl (.cons rfl (.cons rfl (.cons rfl (.cons rfl (.cons rfl (.cons rfl .nil))))))) (fun _ h => h))
    · have : j = bs.length := by omega
      subst this
      rw [List.take_length]
      refine Run.exit rfl ?_
      (repeat (first | (apply Ops.q; rfl; rfl) | (apply Ops.gyB; rfl; rfl) | (apply Ops.gnB; rfl; decide) | (apply Ops.add; rfl; rfl; (constructor <;> omega)) | (apply Ops.sub; rfl; rfl; (constructor <;> omega)) | (apply Ops.rem; rfl; rfl; omega; omega) | (apply Ops.quo; rfl; rfl; (constructor <;> omega); omega) | (apply Ops.ld; rfl; (first | exact m0 | exact m1 | exact m2 | exact m3 | exact m4 | exact m5 | exact m6); rfl) | (apply Ops.st0; rfl; rfl; rfl; rfl; (first | exact u0 | exact u1 | exact u2 | exact u3 | exact u4 | exact u5); focus (simp; done)) | refine Ops.nil ?_ | refine Segs.nil ?_ | (apply Segs.oneS; rfl) | refine Run.seq ?_ | refine Run.reg ?_ | refine Run.block ?_ | refine Run.blk ?_ | refine Run.skip ?_))
      exact Run.lp (Run.again ih' (.cons rfl (.cons rfl (.cons rfl (.cons rfl .nil)))) (fun _ h => h))
  · have : i = bss.length := by omega
    subst this
    rw [List.take_length]
    refine Run.exit rfl ?_
    have hc := crcFold_lt bss.flatten (c := 4294967295) (by decide)
    (repeat (first | (apply Ops.q; rfl; rfl) | (apply Ops.gyB; rfl; rfl) | (apply Ops.gnB; rfl; decide) | (apply Ops.add; rfl; rfl; (constructor <;> omega)) | (apply Ops.sub; rfl; rfl; (constructor <;> omega)) | (apply Ops.rem; rfl; rfl; omega; omega) | (apply Ops.quo; rfl; rfl; (constructor <;> omega); omega) | (apply Ops.ld; rfl; (first | exact m0 | exact m1 | exact m2 | exact m3 | exact m4 | exact m5 | exact m6); rfl) | (apply Ops.st0; rfl; rfl; rfl; rfl; (first | exact u0 | exact u1 | exact u2 | exact u3 | exact u4 | exact u5); focus (simp; done)) | refine Ops.nil ?_ | refine Segs.nil ?_ | (apply Segs.oneS; rfl) | refine Run.seq ?_ | refine Run.reg ?_ | refine Run.block ?_ | refine Run.blk ?_ | refine Run.skip ?_))
    refine Run.ret1 Try.func33 rfl rfl (fun h q => q) ⟨?_, rfl⟩
    unfold crcOf
    generalize bss.flatten.foldl crcByte 4294967295 = c at *
    have e1 : (BitVec.ofInt IntKind.u32.bits 4294967295).toNat = 4294967295 := bv_nat (w := 32) (n := 4294967295) (by decide)
    have e2 : (BitVec.ofInt IntKind.u32.bits (c : Int)).toNat = c := bv_nat (by simp [IntKind.bits]; omega)
    have e3 : IntKind.u32.max = 4294967295 := rfl
    congr 1
    simp only [IntKind.signed, Bool.false_eq_true, if_false, e3]
    rw [BitVec.toNat_xor, e1, e2, wrap_nat rfl (Nat.xor_lt_two_pow (by decide) (by simp [IntKind.bits]; omega)), Nat.xor_comm]
end Eng
end Go.Proofs.Ytbhlolmglieehaa
