/- The log: a record behind all others; its list. -/
import Derived.Test.YtbhlolmglieehaaLog5
set_option linter.unusedSimpArgs false
set_option linter.unusedVariables false
namespace Go.Proofs.Ytbhlolmglieehaa

structure LogS.Ok (L : LogS) (D : DiskS) : Prop where
  half : L.half ≤ 1
  pos : L.pos ≤ D.hf
  epoch : L.epoch ≤ 4294967290
  top : L.top ≤ 4294967290
  list : L.list.length ≤ L.pos
  disk : D.Ok
  size : 6 ≤ D.kept.length

def LogS.append (L : LogS) (D : DiskS) (b : Bytes) : Int × LogS × DiskS :=
  if L.dead = true then (3, L, D) else if 4096 < b.length then (6, L, D) else if D.hf < L.pos + sectorsOf b.length then (7, L, D) else
    if (L.keep D (cutOf L.list.length L.epoch b)).1 = 0 then (0, { L with pos := L.pos + sectorsOf b.length, list := L.list ++ [b] }, (L.keep D (cutOf L.list.length L.epoch b)).2)
    else ((L.keep D (cutOf L.list.length L.epoch b)).1, { L with dead := true }, (L.keep D (cutOf L.list.length L.epoch b)).2)

theorem hf_le {D : DiskS} (h : D.Ok) : D.hf ≤ 2047 := by unfold DiskS.hf; have := h.size; omega

namespace Eng
theorem rows_snoc {vs : List Value} {bss : List Bytes} {b : Bytes} {a : Option Addr} {n c : Nat} {T : TypeId} {H : List HA} : ∀ h, seps (RowsP vs bss :: OwnS a n c 1 T (bvs b) :: H) h → seps (RowsP (vs ++ [.slice a n c]) (bss ++ [b]) :: H) h := by
  intro h ⟨x, y, sp, ⟨G1, h1, q1⟩, ⟨x2, y2, sp2, ⟨G2, h2, q2⟩, qr⟩⟩
  have q : seps (G1 ++ (G2 ++ H)) h := seps_append.2 ⟨x, y, sp, q1, seps_append.2 ⟨x2, y2, sp2, q2, qr⟩⟩
  rw [← List.append_assoc] at q
  obtain ⟨x3, y3, sp3, q3, qr3⟩ := seps_append.1 q
  exact ⟨x3, y3, sp3, ⟨G1 ++ G2, h1.snoc h2.row.2, q3⟩, qr3⟩

attribute [local irreducible] Ops Segs Run Spec

theorem rdS_cells {F : Hp} {b : Nat} {ss : List Bytes} {T : TypeId} {fz : Nat × Nat} (hF : F b = some (.cells (ss.flatMap bvs).toArray T fz)) (h64 : ∀ s ∈ ss, s.length = 64) {n c : Nat} (hn : n = ss.length) (hc : n ≤ c) : RdS F (.slice (some ⟨b, 0, none⟩) n c) ss := by
  subst hn
  have hl : (ss.flatMap bvs).length = ss.length * 64 := flat_len ss (fun s hs => by rw [bvs_len, h64 s hs])
  exact ⟨_, c, rfl, hc, h64, .inr ⟨b, 0, ss.flatMap bvs, T, fz, rfl, hF, by omega, by rw [List.drop_zero, List.take_of_length_le (by omega)]⟩⟩

theorem app_fit {m k : Nat} (h : m ≤ 1099511627) (hk : k ≤ 100) : (2 * m + 1024) * k ≤ 281474976710656 :=
  Nat.le_trans (Nat.mul_le_mul_left _ hk) (by omega)

set_option maxHeartbeats 400000 in
theorem log_Append (l d : Nat) (L : LogS) (D : DiskS) (ok : L.Ok D) (hc : D.cache.length + 5000 ≤ 1099511627776) (v : Value) (b : Bytes) (hb : b.length ≤ 1048576) (F : Hp) (hr : RdB F v b) :
    Spec Try.prog 10 [.pointer (some ⟨l, 0, none⟩), v].toArray F [LogP l d L, DiskP d D] fun v H => v = .int .i64 (L.append D b).1 ∧ H = [LogP l d (L.append D b).2.1, DiskP d (L.append D b).2.2] := by
  have hr' := hr
  obtain ⟨oa, oc, rfl, _⟩ := hr'
  have hsz := ok.disk.size
  have hhf := hf_le ok.disk
  have hpos := ok.pos
  have hlist := ok.list
  have h6 := ok.size
  have hsn : sectorsOf b.length * 63 ≤ b.length + 78 ∧ b.length + 16 ≤ sectorsOf b.length * 63 := by unfold sectorsOf; omega
  have hbb : (2 * b.length + 1024) * 1 ≤ 281474976710656 := app_fit (by omega) (by decide)
  have hbl : (2 * (L.list.length + 1) + 1024) * 24 ≤ 281474976710656 := app_fit (by omega) (by decide)
  refine Spec.enter (n := 68) Try.func10 ok_log_Log_Append rfl (by simp) ?_
  unfold ec_log_Log_Append
  simp only [argFr, Nat.reduceAdd]
  refine Run.open_ s0 fun G ⟨a, c, vs, hh, hvl, hG⟩ => ?_
  subst hG
  simp only [List.cons_append, List.nil_append]
  have hfold : ∀ (L' : LogS) (a' : Option Addr) (c' : Nat) (vs' : List Value) (D' : DiskS), L'.half ≤ 1 → vs'.length = L'.list.length → ∀ h, seps [DiskP d D', .pt l (.cells (lcells d L' a' vs'.length c').toArray 55 (0, 0)), OwnS a' vs'.length c' 1 30 vs', RowsP vs' L'.list] h → seps [LogP l d L', DiskP d D'] h :=
    fun L' a' c' vs' D' hh hv h q => fold_grp (.cons s1 (.cons s1 (.cons s1 .nil))) ⟨a', c', vs', hh, hv, rfl⟩ h q
  (repeat (first | (apply Ops.q; rfl; rfl) | (apply Ops.gyB; rfl; rfl) | (apply Ops.gnB; rfl; decide) | (apply Ops.add; rfl; rfl; (constructor <;> omega)) | (apply Ops.sub; rfl; rfl; (constructor <;> omega)) | (apply Ops.rem; rfl; rfl; omega; omega) | (apply Ops.quo; rfl; rfl; (constructor <;> omega); omega) | (apply Ops.ld; rfl; (first | exact m0 | exact m1 | exact m2 | exact m3 | exact m4 | exact m5 | exact m6); rfl) | (apply Ops.st0; rfl; rfl; rfl; rfl; (first | exact u0 | exact u1 | exact u2 | exact u3 | exact u4 | exact u5); focus (simp; done)) | refine Ops.nil ?_ | refine Segs.nil ?_ | (apply Segs.oneS; rfl) | refine Run.seq ?_ | refine Run.reg ?_ | refine Run.block ?_ | refine Run.blk ?_ | refine Run.skip ?_))
  refine Ops.call1 rfl .nil (fun F' _ _ => log_sectors b.length (by omega) F') ?_
  rintro v G ⟨rfl, rfl⟩
  simp only [List.cons_append, List.nil_append]
  unfold LogS.append
  (repeat (first | (apply Ops.q; rfl; rfl) | (apply Ops.gyB; rfl; rfl) | (apply Ops.gnB; rfl; decide) | (apply Ops.add; rfl; rfl; (constructor <;> omega)) | (apply Ops.sub; rfl; rfl; (constructor <;> omega)) | (apply Ops.rem; rfl; rfl; omega; omega) | (apply Ops.quo; rfl; rfl; (constructor <;> omega); omega) | (apply Ops.ld; rfl; (first | exact m0 | exact m1 | exact m2 | exact m3 | exact m4 | exact m5 | exact m6); rfl) | (apply Ops.st0; rfl; rfl; rfl; rfl; (first | exact u0 | exact u1 | exact u2 | exact u3 | exact u4 | exact u5); focus (simp; done)) | refine Ops.nil ?_ | refine Segs.nil ?_ | (apply Segs.oneS; rfl) | refine Run.seq ?_ | refine Run.reg ?_ | refine Run.block ?_ | refine Run.blk ?_ | refine Run.skip ?_))
  by_cases hd : L.dead = true
  · rw [if_pos hd]
    refine Run.condT (by rw [← hd]; rfl) ?_
    (repeat (first | (apply Ops.q; rfl; rfl) | (apply Ops.gyB; rfl; rfl) | (apply Ops.gnB; rfl; decide) | (apply Ops.add; rfl; rfl; (constructor <;> omega)) | (apply Ops.sub; rfl; rfl; (constructor <;> omega)) | (apply Ops.rem; rfl; rfl; omega; omega) | (apply Ops.quo; rfl; rfl; (constructor <;> omega); omega) | (apply Ops.ld; rfl; (first | exact m0 | exact m1 | exact m2 | exact m3 | exact m4 | exact m5 | exact m6); rfl) | (apply Ops.st0; rfl; rfl; rfl; rfl; (first | exact u0 | exact u1 | exact u2 | exact u3 | exact u4 | exact u5); focus (simp; done)) | refine Ops.nil ?_ | refine Segs.nil ?_ | (apply Segs.oneS; rfl) | refine Run.seq ?_ | refine Run.reg ?_ | refine Run.block ?_ | refine Run.blk ?_ | refine Run.skip ?_))
    exact Run.ret1 Try.func10 rfl rfl (fun h q => hfold L a c vs D hh hvl h (take_sub (.cons s3 (.cons s0 (.cons s0 (.cons s0 .nil)))) h q)) ⟨rfl, rfl⟩
  rw [if_neg hd]
  refine Run.condF (by have : L.dead = false := by simpa using hd
                       rw [← this]; rfl) ?_
  (repeat (first | (apply Ops.q; rfl; rfl) | (apply Ops.gyB; rfl; rfl) | (apply Ops.gnB; rfl; decide) | (apply Ops.add; rfl; rfl; (constructor <;> omega)) | (apply Ops.sub; rfl; rfl; (constructor <;> omega)) | (apply Ops.rem; rfl; rfl; omega; omega) | (apply Ops.quo; rfl; rfl; (constructor <;> omega); omega) | (apply Ops.ld; rfl; (first | exact m0 | exact m1 | exact m2 | exact m3 | exact m4 | exact m5 | exact m6); rfl) | (apply Ops.st0; rfl; rfl; rfl; rfl; (first | exact u0 | exact u1 | exact u2 | exact u3 | exact u4 | exact u5); focus (simp; done)) | refine Ops.nil ?_ | refine Segs.nil ?_ | (apply Segs.oneS; rfl) | refine Run.seq ?_ | refine Run.reg ?_ | refine Run.block ?_ | refine Run.blk ?_ | refine Run.skip ?_))
  refine Run.condD rfl (fun h4 => ?_) (fun h4 => ?_)
  · rw [if_pos (by omega)]
    (repeat (first | (apply Ops.q; rfl; rfl) | (apply Ops.gyB; rfl; rfl) | (apply Ops.gnB; rfl; decide) | (apply Ops.add; rfl; rfl; (constructor <;> omega)) | (apply Ops.sub; rfl; rfl; (constructor <;> omega)) | (apply Ops.rem; rfl; rfl; omega; omega) | (apply Ops.quo; rfl; rfl; (constructor <;> omega); omega) | (apply Ops.ld; rfl; (first | exact m0 | exact m1 | exact m2 | exact m3 | exact m4 | exact m5 | exact m6); rfl) | (apply Ops.st0; rfl; rfl; rfl; rfl; (first | exact u0 | exact u1 | exact u2 | exact u3 | exact u4 | exact u5); focus (simp; done)) | refine Ops.nil ?_ | refine Segs.nil ?_ | (apply Segs.oneS; rfl) | refine Run.seq ?_ | refine Run.reg ?_ | refine Run.block ?_ | refine Run.blk ?_ | refine Run.skip ?_))
    exact Run.ret1 Try.func10 rfl rfl (fun h q => hfold L a c vs D hh hvl h (take_sub (.cons s3 (.cons s0 (.cons s0 (.cons s0 .nil)))) h q)) ⟨rfl, rfl⟩
  rw [if_neg (by omega)]
  (repeat (first | (apply Ops.q; rfl; rfl) | (apply Ops.gyB; rfl; rfl) | (apply Ops.gnB; rfl; decide) | (apply Ops.add; rfl; rfl; (constructor <;> omega)) | (apply Ops.sub; rfl; rfl; (constructor <;> omega)) | (apply Ops.rem; rfl; rfl; omega; omega) | (apply Ops.quo; rfl; rfl; (constructor <;> omega); omega) | (apply Ops.ld; rfl; (first | exact m0 | exact m1 | exact m2 | exact m3 | exact m4 | exact m5 | exact m6); rfl) | (apply Ops.st0; rfl; rfl; rfl; rfl; (first | exact u0 | exact u1 | exact u2 | exact u3 | exact u4 | exact u5); focus (simp; done)) | refine Ops.nil ?_ | refine Segs.nil ?_ | (apply Segs.oneS; rfl) | refine Run.seq ?_ | refine Run.reg ?_ | refine Run.block ?_ | refine Run.blk ?_ | refine Run.skip ?_))
  refine Segs.lend [_] (.cons s0 .nil) fun F1 x1 k1 => ?_
  have hFl := k1 _ _ m0
  (repeat (first | (apply Ops.q; rfl; rfl) | (apply Ops.gyB; rfl; rfl) | (apply Ops.gnB; rfl; decide) | (apply Ops.add; rfl; rfl; (constructor <;> omega)) | (apply Ops.sub; rfl; rfl; (constructor <;> omega)) | (apply Ops.rem; rfl; rfl; omega; omega) | (apply Ops.quo; rfl; rfl; (constructor <;> omega); omega) | (apply Ops.ld; rfl; (first | exact m0 | exact m1 | exact m2 | exact m3 | exact m4 | exact m5 | exact m6); rfl) | (apply Ops.st0; rfl; rfl; rfl; rfl; (first | exact u0 | exact u1 | exact u2 | exact u3 | exact u4 | exact u5); focus (simp; done)) | refine Ops.nil ?_ | refine Segs.nil ?_ | (apply Segs.oneS; rfl) | refine Run.seq ?_ | refine Run.reg ?_ | refine Run.block ?_ | refine Run.blk ?_ | refine Run.skip ?_))
  refine Ops.ldF rfl hFl rfl ?_
  (repeat (first | (apply Ops.q; rfl; rfl) | (apply Ops.gyB; rfl; rfl) | (apply Ops.gnB; rfl; decide) | (apply Ops.add; rfl; rfl; (constructor <;> omega)) | (apply Ops.sub; rfl; rfl; (constructor <;> omega)) | (apply Ops.rem; rfl; rfl; omega; omega) | (apply Ops.quo; rfl; rfl; (constructor <;> omega); omega)))
  refine Ops.ldF rfl hFl rfl ?_
  refine Ops.call1 rfl (.cons s2 .nil) (fun F' _ _ => log_half d D (by omega) F') ?_
  rintro v G ⟨rfl, rfl⟩
  simp only [List.cons_append, List.nil_append]
  refine Ops.nil (Segs.oneS rfl ?_)
  (repeat (first | (apply Ops.q; rfl; rfl) | (apply Ops.gyB; rfl; rfl) | (apply Ops.gnB; rfl; decide) | (apply Ops.add; rfl; rfl; (constructor <;> omega)) | (apply Ops.sub; rfl; rfl; (constructor <;> omega)) | (apply Ops.rem; rfl; rfl; omega; omega) | (apply Ops.quo; rfl; rfl; (constructor <;> omega); omega)))
  refine Ops.nil (Segs.nil ?_)
  refine Run.condD rfl (fun h5 => ?_) (fun h5 => ?_)
  · rw [if_pos (by omega)]
    (repeat (first | (apply Ops.q; rfl; rfl) | (apply Ops.gyB; rfl; rfl) | (apply Ops.gnB; rfl; decide) | (apply Ops.add; rfl; rfl; (constructor <;> omega)) | (apply Ops.sub; rfl; rfl; (constructor <;> omega)) | (apply Ops.rem; rfl; rfl; omega; omega) | (apply Ops.quo; rfl; rfl; (constructor <;> omega); omega) | (apply Ops.ld; rfl; (first | exact m0 | exact m1 | exact m2 | exact m3 | exact m4 | exact m5 | exact m6); rfl) | (apply Ops.st0; rfl; rfl; rfl; rfl; (first | exact u0 | exact u1 | exact u2 | exact u3 | exact u4 | exact u5); focus (simp; done)) | refine Ops.nil ?_ | refine Segs.nil ?_ | (apply Segs.oneS; rfl) | refine Run.seq ?_ | refine Run.reg ?_ | refine Run.block ?_ | refine Run.blk ?_ | refine Run.skip ?_))
    exact Run.ret1 Try.func10 rfl rfl (fun h q => hfold L a c vs D hh hvl h (take_sub (.cons s1 (.cons s0 (.cons s0 (.cons s0 .nil)))) h q)) ⟨rfl, rfl⟩
  rw [if_neg (by omega)]
  clear hFl k1 x1 F1
  (repeat (first | (apply Ops.q; rfl; rfl) | (apply Ops.gyB; rfl; rfl) | (apply Ops.gnB; rfl; decide) | (apply Ops.add; rfl; rfl; (constructor <;> omega)) | (apply Ops.sub; rfl; rfl; (constructor <;> omega)) | (apply Ops.rem; rfl; rfl; omega; omega) | (apply Ops.quo; rfl; rfl; (constructor <;> omega); omega) | (apply Ops.ld; rfl; (first | exact m0 | exact m1 | exact m2 | exact m3 | exact m4 | exact m5 | exact m6); rfl) | (apply Ops.st0; rfl; rfl; rfl; rfl; (first | exact u0 | exact u1 | exact u2 | exact u3 | exact u4 | exact u5); focus (simp; done)) | refine Ops.nil ?_ | refine Segs.nil ?_ | (apply Segs.oneS; rfl) | refine Run.seq ?_ | refine Run.reg ?_ | refine Run.block ?_ | refine Run.blk ?_ | refine Run.skip ?_))
  refine Ops.call1 rfl .nil (fun F' e kn => log_cut l d L a vs.length c (by have := ok.epoch; omega) vs.length (by omega) _ b hb F' (hr.ext e) (kn _ _ m0)) ?_
  rintro v G ⟨o, rfl, rfl⟩
  simp only [List.cons_append, List.nil_append]
  rw [hvl]
  have hcl := cutOf_len L.list.length L.epoch b
  have hca := cutOf_all L.list.length L.epoch b
  rw [← hcl]
  generalize cutOf L.list.length L.epoch b = ss at *
  refine Ops.call1 rfl (.cons s2 .nil) (fun F' e kn => log_keep l d L a vs.length c D ok.disk (by omega) hh (by omega) o 0 ss.length ss (by omega) (by omega) F' (rdS_cells (kn _ _ m0) hca rfl (Nat.le_refl _)) (by rw [← hvl] at kn; exact kn _ _ m1)) ?_
  rintro v G ⟨rfl, rfl⟩
  simp only [List.cons_append, List.nil_append]
  generalize L.keep D ss = r at *
  (repeat (first | (apply Ops.q; rfl; rfl) | (apply Ops.gyB; rfl; rfl) | (apply Ops.gnB; rfl; decide) | (apply Ops.add; rfl; rfl; (constructor <;> omega)) | (apply Ops.sub; rfl; rfl; (constructor <;> omega)) | (apply Ops.rem; rfl; rfl; omega; omega) | (apply Ops.quo; rfl; rfl; (constructor <;> omega); omega) | (apply Ops.ld; rfl; (first | exact m0 | exact m1 | exact m2 | exact m3 | exact m4 | exact m5 | exact m6); rfl) | (apply Ops.st0; rfl; rfl; rfl; rfl; (first | exact u0 | exact u1 | exact u2 | exact u3 | exact u4 | exact u5); focus (simp; done)) | refine Ops.nil ?_ | refine Segs.nil ?_ | (apply Segs.oneS; rfl) | refine Run.seq ?_ | refine Run.reg ?_ | refine Run.block ?_ | refine Run.blk ?_ | refine Run.skip ?_))
  by_cases he : r.1 = 0
  · rw [if_pos he]
    refine Run.condF (by simp [he, get, look]) ?_
    refine Run.conseq (H' := [.pt l (.cells (lcells d L a L.list.length c).toArray 55 (0, 0)), OwnS a L.list.length c 1 30 vs, RowsP vs L.list, DiskP d r.2]) (fun h q => take_sub (.cons s2 (.cons s2 (.cons s2 (.cons s0 .nil)))) h q) ?_
    (repeat (first | (apply Ops.q; rfl; rfl) | (apply Ops.gyB; rfl; rfl) | (apply Ops.gnB; rfl; decide) | (apply Ops.add; rfl; rfl; (constructor <;> omega)) | (apply Ops.sub; rfl; rfl; (constructor <;> omega)) | (apply Ops.rem; rfl; rfl; omega; omega) | (apply Ops.quo; rfl; rfl; (constructor <;> omega); omega) | (apply Ops.ld; rfl; (first | exact m0 | exact m1 | exact m2 | exact m3 | exact m4 | exact m5 | exact m6); rfl) | (apply Ops.st0; rfl; rfl; rfl; rfl; (first | exact u0 | exact u1 | exact u2 | exact u3 | exact u4 | exact u5); focus (simp; done)) | refine Ops.nil ?_ | refine Segs.nil ?_ | (apply Segs.oneS; rfl) | refine Run.seq ?_ | refine Run.reg ?_ | refine Run.block ?_ | refine Run.blk ?_ | refine Run.skip ?_))
    refine Segs.lend [_] (.cons s0 .nil) fun F1 x1 k1 => ?_
    (repeat (first | (apply Ops.q; rfl; rfl) | (apply Ops.gyB; rfl; rfl) | (apply Ops.gnB; rfl; decide) | (apply Ops.add; rfl; rfl; (constructor <;> omega)) | (apply Ops.sub; rfl; rfl; (constructor <;> omega)) | (apply Ops.rem; rfl; rfl; omega; omega) | (apply Ops.quo; rfl; rfl; (constructor <;> omega); omega) | (apply Ops.ld; rfl; (first | exact m0 | exact m1 | exact m2 | exact m3 | exact m4 | exact m5 | exact m6); rfl) | (apply Ops.st0; rfl; rfl; rfl; rfl; (first | exact u0 | exact u1 | exact u2 | exact u3 | exact u4 | exact u5); focus (simp; done)) | refine Ops.nil ?_ | refine Segs.nil ?_ | (apply Segs.oneS; rfl) | refine Run.seq ?_ | refine Run.reg ?_ | refine Run.block ?_ | refine Run.blk ?_ | refine Run.skip ?_))
    refine Ops.ldF rfl (k1 _ _ m0) rfl ?_
    refine Ops.call1 rfl .nil (fun F' _ _ => log_sectors b.length (by omega) F') ?_
    rintro v G ⟨rfl, rfl⟩
    simp only [List.cons_append, List.nil_append]
    refine Ops.nil (Segs.oneS rfl ?_)
    rw [← hcl]
    (repeat (first | (apply Ops.q; rfl; rfl) | (apply Ops.gyB; rfl; rfl) | (apply Ops.gnB; rfl; decide) | (apply Ops.add; rfl; rfl; (constructor <;> omega)) | (apply Ops.sub; rfl; rfl; (constructor <;> omega)) | (apply Ops.rem; rfl; rfl; omega; omega) | (apply Ops.quo; rfl; rfl; (constructor <;> omega); omega) | (apply Ops.ld; rfl; (first | exact m0 | exact m1 | exact m2 | exact m3 | exact m4 | exact m5 | exact m6); rfl) | (apply Ops.st0; rfl; rfl; rfl; rfl; (first | exact u0 | exact u1 | exact u2 | exact u3 | exact u4 | exact u5); focus (simp; done)) | refine Ops.nil ?_ | refine Segs.nil ?_ | (apply Segs.oneS; rfl) | refine Run.seq ?_ | refine Run.reg ?_ | refine Run.block ?_ | refine Run.blk ?_ | refine Run.skip ?_))
    clear k1 x1 F1
    refine Segs.lend [_] (.cons s0 .nil) fun F1 x1 k1 => ?_
    (repeat (first | (apply Ops.q; rfl; rfl) | (apply Ops.gyB; rfl; rfl) | (apply Ops.gnB; rfl; decide) | (apply Ops.add; rfl; rfl; (constructor <;> omega)) | (apply Ops.sub; rfl; rfl; (constructor <;> omega)) | (apply Ops.rem; rfl; rfl; omega; omega) | (apply Ops.quo; rfl; rfl; (constructor <;> omega); omega) | (apply Ops.ld; rfl; (first | exact m0 | exact m1 | exact m2 | exact m3 | exact m4 | exact m5 | exact m6); rfl) | (apply Ops.st0; rfl; rfl; rfl; rfl; (first | exact u0 | exact u1 | exact u2 | exact u3 | exact u4 | exact u5); focus (simp; done)) | refine Ops.nil ?_ | refine Segs.nil ?_ | (apply Segs.oneS; rfl) | refine Run.seq ?_ | refine Run.reg ?_ | refine Run.block ?_ | refine Run.blk ?_ | refine Run.skip ?_))
    refine Ops.ldF rfl (k1 _ _ m0) rfl ?_
    refine Ops.appN (ys := bvs b) rfl rfl rfl (fun w h q f => (hr.ext x1).shows w h q f) (bvs_one b) (by rw [bvs_len]; exact (Nat.mul_one _).symm) (by decide) hbb fun a1 c1 => ?_
    refine Ops.lit [.slice a1 b.length c1] rfl rfl fun b1 => ?_
    refine Ops.nil (Segs.oneS rfl ?_)
    simp only [List.cons_append, List.nil_append]
    refine Ops.app (m := 1) (ys := [.slice a1 b.length c1]) rfl rfl rfl s3 (shows_pt m1 (Nat.le_refl 1) rfl) (fun v hv => by rw [List.mem_singleton] at hv; subst hv; rfl) rfl (by decide) hbl fun a2 c2 => ?_
    (repeat (first | (apply Ops.q; rfl; rfl) | (apply Ops.gyB; rfl; rfl) | (apply Ops.gnB; rfl; decide) | (apply Ops.add; rfl; rfl; (constructor <;> omega)) | (apply Ops.sub; rfl; rfl; (constructor <;> omega)) | (apply Ops.rem; rfl; rfl; omega; omega) | (apply Ops.quo; rfl; rfl; (constructor <;> omega); omega) | (apply Ops.ld; rfl; (first | exact m0 | exact m1 | exact m2 | exact m3 | exact m4 | exact m5 | exact m6); rfl) | (apply Ops.st0; rfl; rfl; rfl; rfl; (first | exact u0 | exact u1 | exact u2 | exact u3 | exact u4 | exact u5); focus (simp; done)) | refine Ops.nil ?_ | refine Segs.nil ?_ | (apply Segs.oneS; rfl) | refine Run.seq ?_ | refine Run.reg ?_ | refine Run.block ?_ | refine Run.blk ?_ | refine Run.skip ?_))
    refine Run.ret1 Try.func10 rfl rfl (fun h q => hfold { L with pos := L.pos + ss.length, list := L.list ++ [b] } a2 c2 (vs ++ [.slice a1 b.length c1]) r.2 hh (by simp [hvl]) h ?_) ⟨rfl, rfl⟩
    have hvl2 : (vs ++ [Value.slice a1 b.length c1]).length = L.list.length + 1 := by rw [List.length_append, hvl]; rfl
    rw [hvl2]
    exact take_sub (.cons s1 (.cons s1 (.cons s1 (.cons s0 .nil)))) h (rows_snoc h (take_sub (.cons s4 (.cons s3 (.cons s3 (.cons s1 (.cons s0 .nil))))) h q))
  · rw [if_neg he]
    refine Run.condT (by simp [he, get, look]) ?_
    (repeat (first | (apply Ops.q; rfl; rfl) | (apply Ops.gyB; rfl; rfl) | (apply Ops.gnB; rfl; decide) | (apply Ops.add; rfl; rfl; (constructor <;> omega)) | (apply Ops.sub; rfl; rfl; (constructor <;> omega)) | (apply Ops.rem; rfl; rfl; omega; omega) | (apply Ops.quo; rfl; rfl; (constructor <;> omega); omega) | (apply Ops.ld; rfl; (first | exact m0 | exact m1 | exact m2 | exact m3 | exact m4 | exact m5 | exact m6); rfl) | (apply Ops.st0; rfl; rfl; rfl; rfl; (first | exact u0 | exact u1 | exact u2 | exact u3 | exact u4 | exact u5); focus (simp; done)) | refine Ops.nil ?_ | refine Segs.nil ?_ | (apply Segs.oneS; rfl) | refine Run.seq ?_ | refine Run.reg ?_ | refine Run.block ?_ | refine Run.blk ?_ | refine Run.skip ?_))
    refine Ops.call1 rfl (.cons s2 .nil) (fun F' e kn => log_die l d L a L.list.length c r.1 F') ?_
    rintro v G ⟨rfl, rfl⟩
    simp only [List.cons_append, List.nil_append]
    (repeat (first | (apply Ops.q; rfl; rfl) | (apply Ops.gyB; rfl; rfl) | (apply Ops.gnB; rfl; decide) | (apply Ops.add; rfl; rfl; (constructor <;> omega)) | (apply Ops.sub; rfl; rfl; (constructor <;> omega)) | (apply Ops.rem; rfl; rfl; omega; omega) | (apply Ops.quo; rfl; rfl; (constructor <;> omega); omega) | (apply Ops.ld; rfl; (first | exact m0 | exact m1 | exact m2 | exact m3 | exact m4 | exact m5 | exact m6); rfl) | (apply Ops.st0; rfl; rfl; rfl; rfl; (first | exact u0 | exact u1 | exact u2 | exact u3 | exact u4 | exact u5); focus (simp; done)) | refine Ops.nil ?_ | refine Segs.nil ?_ | (apply Segs.oneS; rfl) | refine Run.seq ?_ | refine Run.reg ?_ | refine Run.block ?_ | refine Run.blk ?_ | refine Run.skip ?_))
    refine Run.ret1 Try.func10 rfl rfl (fun h q => hfold { L with dead := true } a c vs r.2 hh hvl h ?_) ⟨rfl, rfl⟩
    have : (L.dead || decide (r.1 ≠ 0)) = true := by simp [he]
    rw [this] at q
    rw [hvl]
    exact take_sub (.cons s1 (.cons s0 (.cons s1 (.cons s1 .nil)))) h q
end Eng
end Go.Proofs.Ytbhlolmglieehaa
