/- The log is written anew. -/
import Derived.Test.YtbhlolmglieehaaLog9
set_option linter.unusedSimpArgs false
set_option linter.unusedVariables false
namespace Go.Proofs.Ytbhlolmglieehaa

def total : List Bytes → Nat
  | [] => 0
  | b :: r => sectorsOf b.length + total r

theorem total_app (a b : List Bytes) : total (a ++ b) = total a + total b := by
  induction a with
  | nil => simp [total]
  | cons x a ih => simp only [List.cons_append, total, ih]; omega

theorem sectors_le {n : Nat} (h : n ≤ 4096) : sectorsOf n ≤ 66 ∧ 1 ≤ sectorsOf n := by unfold sectorsOf; omega

theorem total_le : ∀ (l : List Bytes), (∀ b ∈ l, b.length ≤ 4096) → total l ≤ 66 * l.length := by
  intro l
  induction l with
  | nil => intro _; exact Nat.le_refl _
  | cons b l ih =>
    intro h
    have h1 := ih (fun x hx => h x (.tail _ hx))
    have h2 := (sectors_le (h b (.head _))).1
    simp only [total, List.length_cons]; omega

def rw_ (L : LogS) (D : DiskS) : List Bytes → Int × LogS × DiskS
  | [] => (0, L, D)
  | b :: r => if (D.put (L.base D L.pos) (cutOf L.list.length L.epoch b)).1 = 0 then
      rw_ { L with pos := L.pos + sectorsOf b.length, list := L.list ++ [b] } (D.put (L.base D L.pos) (cutOf L.list.length L.epoch b)).2 r
    else ((D.put (L.base D L.pos) (cutOf L.list.length L.epoch b)).1, { L with dead := true }, (D.put (L.base D L.pos) (cutOf L.list.length L.epoch b)).2)

def headSect (e : Nat) : Bytes := 1 :: (le4 e ++ (le4 (crcOf (1 :: le4 e)) ++ List.replicate 55 0))

theorem headSect_len (e : Nat) : (headSect e).length = 64 := rfl

def LogS.anew (L : LogS) : LogS := { epoch := L.top + 1, top := L.top + 1, half := 1 - L.half, pos := 0, list := [], dead := L.dead }

def finish (L : LogS) (D : DiskS) : Int × DiskS := andThen D.flush fun D => andThen (D.write L.half (headSect L.epoch)) DiskS.flush

def endRw (x : Int × LogS × DiskS) : Int × LogS × DiskS :=
  if x.1 = 0 then ((finish x.2.1 x.2.2).1, { x.2.1 with dead := x.2.1.dead || decide ((finish x.2.1 x.2.2).1 ≠ 0) }, (finish x.2.1 x.2.2).2) else x

def LogS.rewrite (L : LogS) (D : DiskS) (list : List Bytes) : Int × LogS × DiskS :=
  if L.dead = true then (3, L, D) else if (∃ b ∈ list, 4096 < b.length) then (6, L, D) else if D.hf < total list then (7, L, D) else
    endRw (rw_ L.anew D list)

namespace Eng
attribute [local irreducible] Ops Segs Run Spec

set_option maxHeartbeats 1000000 in
theorem log_Rewrite (l d : Nat) (L : LogS) (D : DiskS) (ok : L.Ok D) (hc : D.cache.length + 5000 ≤ 1099511627776) (v : Value) (bss : List Bytes) (hn : bss.length ≤ 1099511627) (F : Hp) (hr : RdBB F v bss) :
    Spec Try.prog 14 [.pointer (some ⟨l, 0, none⟩), v].toArray F [LogP l d L, DiskP d D] fun v H => v = .int .i64 (L.rewrite D bss).1 ∧ H = [LogP l d (L.rewrite D bss).2.1, DiskP d (L.rewrite D bss).2.2] := by
  obtain ⟨oa, oc, rfl, hbb⟩ := hr
  have hsz := ok.disk.size
  have hhf := hf_le ok.disk
  have h6 := ok.size
  refine Spec.enter (n := 159) Try.func14 ok_log_Log_Rewrite rfl (by simp) ?_
  unfold ec_log_Log_Rewrite
  simp only [argFr, Nat.reduceAdd]
  refine Run.open_ s0 fun G ⟨a, c, vs, hh, hvl, hG⟩ => ?_
  subst hG
  simp only [List.cons_append, List.nil_append]
  have hfold : ∀ (L' : LogS) (a' : Option Addr) (c' : Nat) (vs' : List Value) (D' : DiskS), L'.half ≤ 1 → vs'.length = L'.list.length → ∀ h, seps [DiskP d D', .pt l (.cells (lcells d L' a' vs'.length c').toArray 55 (0, 0)), OwnS a' vs'.length c' 1 30 vs', RowsP vs' L'.list] h → seps [LogP l d L', DiskP d D'] h :=
    fun L' a' c' vs' D' hh hv h q => fold_grp (.cons s1 (.cons s1 (.cons s1 .nil))) ⟨a', c', vs', hh, hv, rfl⟩ h q
  (repeat (first | (apply Ops.q; rfl; rfl) | (apply Ops.gyB; rfl; rfl) | (apply Ops.gnB; rfl; decide) | (apply Ops.add; rfl; rfl; (constructor <;> omega)) | (apply Ops.sub; rfl; rfl; (constructor <;> omega)) | (apply Ops.rem; rfl; rfl; omega; omega) | (apply Ops.quo; rfl; rfl; (constructor <;> omega); omega) | (apply Ops.ld; rfl; (first | exact m0 | exact m1 | exact m2 | exact m3 | exact m4 | exact m5 | exact m6); rfl) | (apply Ops.st0; rfl; rfl; rfl; rfl; (first | exact u0 | exact u1 | exact u2 | exact u3 | exact u4 | exact u5); focus (simp; done)) | refine Ops.nil ?_ | refine Segs.nil ?_ | (apply Segs.oneS; rfl) | refine Run.seq ?_ | refine Run.reg ?_ | refine Run.block ?_ | refine Run.blk ?_ | refine Run.skip ?_))
  generalize hres : L.rewrite D bss = res at *
  unfold LogS.rewrite at hres
  by_cases hd : L.dead = true
  · rw [if_pos hd] at hres
    subst hres
    refine Run.condT (by rw [← hd]; rfl) ?_
    (repeat (first | (apply Ops.q; rfl; rfl) | (apply Ops.gyB; rfl; rfl) | (apply Ops.gnB; rfl; decide) | (apply Ops.add; rfl; rfl; (constructor <;> omega)) | (apply Ops.sub; rfl; rfl; (constructor <;> omega)) | (apply Ops.rem; rfl; rfl; omega; omega) | (apply Ops.quo; rfl; rfl; (constructor <;> omega); omega) | (apply Ops.ld; rfl; (first | exact m0 | exact m1 | exact m2 | exact m3 | exact m4 | exact m5 | exact m6); rfl) | (apply Ops.st0; rfl; rfl; rfl; rfl; (first | exact u0 | exact u1 | exact u2 | exact u3 | exact u4 | exact u5); focus (simp; done)) | refine Ops.nil ?_ | refine Segs.nil ?_ | (apply Segs.oneS; rfl) | refine Run.seq ?_ | refine Run.reg ?_ | refine Run.block ?_ | refine Run.blk ?_ | refine Run.skip ?_))
    exact Run.ret1 Try.func14 rfl rfl (fun h q => hfold L a c vs D hh hvl h (take_sub (.cons s3 (.cons s0 (.cons s0 (.cons s0 .nil)))) h q)) ⟨rfl, rfl⟩
  rw [if_neg hd] at hres
  refine Run.condF (by have : L.dead = false := by simpa using hd
                       rw [← this]; rfl) ?_
  (repeat (first | (apply Ops.q; rfl; rfl) | (apply Ops.gyB; rfl; rfl) | (apply Ops.gnB; rfl; decide) | (apply Ops.add; rfl; rfl; (constructor <;> omega)) | (apply Ops.sub; rfl; rfl; (constructor <;> omega)) | (apply Ops.rem; rfl; rfl; omega; omega) | (apply Ops.quo; rfl; rfl; (constructor <;> omega); omega) | (apply Ops.ld; rfl; (first | exact m0 | exact m1 | exact m2 | exact m3 | exact m4 | exact m5 | exact m6); rfl) | (apply Ops.st0; rfl; rfl; rfl; rfl; (first | exact u0 | exact u1 | exact u2 | exact u3 | exact u4 | exact u5); focus (simp; done)) | refine Ops.nil ?_ | refine Segs.nil ?_ | (apply Segs.oneS; rfl) | refine Run.seq ?_ | refine Run.reg ?_ | refine Run.block ?_ | refine Run.blk ?_ | refine Run.skip ?_))
  refine Run.loopI (ι := Nat) (fun x => bss.length - x) (fun x => x ≤ bss.length ∧ ∀ b ∈ bss.take x, b.length ≤ 4096)
    (fun x => [(20, .int .i64 x), (19, .int .i64 bss.length), (18, .slice oa bss.length oc), (5, .int .i64 (total (bss.take x))), (0, .pointer (some ⟨l, 0, none⟩)), (1, .slice oa bss.length oc)])
    (fun x => [.pt l (.cells (lcells d L a vs.length c).toArray 55 (0, 0)), OwnS a vs.length c 1 30 vs, RowsP vs L.list, DiskP d D])
    0 ⟨Nat.zero_le _, by simp⟩ (.cons rfl (.cons rfl (.cons rfl (.cons rfl (.cons rfl (.cons rfl .nil)))))) (fun _ h => h) ?_
  rintro i ⟨hi, hall⟩ ih
  try dsimp only at hi hall ih ⊢
  unfold ec_log_Log_Rewrite_L1
  (repeat (first | (apply Ops.q; rfl; rfl) | (apply Ops.gyB; rfl; rfl) | (apply Ops.gnB; rfl; decide) | (apply Ops.add; rfl; rfl; (constructor <;> omega)) | (apply Ops.sub; rfl; rfl; (constructor <;> omega)) | (apply Ops.rem; rfl; rfl; omega; omega) | (apply Ops.quo; rfl; rfl; (constructor <;> omega); omega) | (apply Ops.ld; rfl; (first | exact m0 | exact m1 | exact m2 | exact m3 | exact m4 | exact m5 | exact m6); rfl) | (apply Ops.st0; rfl; rfl; rfl; rfl; (first | exact u0 | exact u1 | exact u2 | exact u3 | exact u4 | exact u5); focus (simp; done)) | refine Ops.nil ?_ | refine Segs.nil ?_ | (apply Segs.oneS; rfl) | refine Run.seq ?_ | refine Run.reg ?_ | refine Run.block ?_ | refine Run.blk ?_ | refine Run.skip ?_))
  refine Run.condD rfl (fun hlt => ?_) (fun hge => ?_)
  · have hlt' : i < bss.length := by omega
    have hel : bss[i]? = some bss[i] := List.getElem?_eq_getElem hlt'
    have hmem : bss[i] ∈ bss := List.getElem_mem hlt'
    rcases hbb with hbb | ⟨ob, o, La, T, fz, rfl, hFb, hl, hrd⟩
    · rw [hbb] at hlt'; simp at hlt'
    obtain ⟨x, hx, hrx⟩ := hrd i _ hel
    have hnext : bss.take (i + 1) = bss.take i ++ [bss[i]] := by rw [List.take_succ_eq_append_getElem hlt']
    have hti : total (bss.take i) ≤ 66 * bss.length := by have := total_le _ hall; rw [List.length_take] at this; omega
    generalize bss[i] = b at *
    have ih' := ih (i + 1)
    rw [hnext, total_app] at ih'
    clear ih hnext
    generalize total (bss.take i) = n at *
    obtain ⟨xa, xc, rfl, _⟩ := id hrx
    (repeat (first | (apply Ops.q; rfl; rfl) | (apply Ops.gyB; rfl; rfl) | (apply Ops.gnB; rfl; decide) | (apply Ops.add; rfl; rfl; (constructor <;> omega)) | (apply Ops.sub; rfl; rfl; (constructor <;> omega)) | (apply Ops.rem; rfl; rfl; omega; omega) | (apply Ops.quo; rfl; rfl; (constructor <;> omega); omega) | (apply Ops.ld; rfl; (first | exact m0 | exact m1 | exact m2 | exact m3 | exact m4 | exact m5 | exact m6); rfl) | (apply Ops.st0; rfl; rfl; rfl; rfl; (first | exact u0 | exact u1 | exact u2 | exact u3 | exact u4 | exact u5); focus (simp; done)) | refine Ops.nil ?_ | refine Segs.nil ?_ | (apply Segs.oneS; rfl) | refine Run.seq ?_ | refine Run.reg ?_ | refine Run.block ?_ | refine Run.blk ?_ | refine Run.skip ?_))
    refine Ops.ixS rfl rfl ⟨by omega, by omega⟩ ?_
    refine Ops.ldF rfl hFb (by rw [Int.toNat_natCast, Nat.mul_one]; exact hx) ?_
    (repeat (first | (apply Ops.q; rfl; rfl) | (apply Ops.gyB; rfl; rfl) | (apply Ops.gnB; rfl; decide) | (apply Ops.add; rfl; rfl; (constructor <;> omega)) | (apply Ops.sub; rfl; rfl; (constructor <;> omega)) | (apply Ops.rem; rfl; rfl; omega; omega) | (apply Ops.quo; rfl; rfl; (constructor <;> omega); omega) | (apply Ops.ld; rfl; (first | exact m0 | exact m1 | exact m2 | exact m3 | exact m4 | exact m5 | exact m6); rfl) | (apply Ops.st0; rfl; rfl; rfl; rfl; (first | exact u0 | exact u1 | exact u2 | exact u3 | exact u4 | exact u5); focus (simp; done)) | refine Ops.nil ?_ | refine Segs.nil ?_ | (apply Segs.oneS; rfl) | refine Run.seq ?_ | refine Run.reg ?_ | refine Run.block ?_ | refine Run.blk ?_ | refine Run.skip ?_))
    refine Run.condD rfl (fun h4 => ?_) (fun h4 => ?_)
    · rw [if_pos ⟨b, hmem, by omega⟩] at hres
      subst hres
      (repeat (first | (apply Ops.q; rfl; rfl) | (apply Ops.gyB; rfl; rfl) | (apply Ops.gnB; rfl; decide) | (apply Ops.add; rfl; rfl; (constructor <;> omega)) | (apply Ops.sub; rfl; rfl; (constructor <;> omega)) | (apply Ops.rem; rfl; rfl; omega; omega) | (apply Ops.quo; rfl; rfl; (constructor <;> omega); omega) | (apply Ops.ld; rfl; (first | exact m0 | exact m1 | exact m2 | exact m3 | exact m4 | exact m5 | exact m6); rfl) | (apply Ops.st0; rfl; rfl; rfl; rfl; (first | exact u0 | exact u1 | exact u2 | exact u3 | exact u4 | exact u5); focus (simp; done)) | refine Ops.nil ?_ | refine Segs.nil ?_ | (apply Segs.oneS; rfl) | refine Run.seq ?_ | refine Run.reg ?_ | refine Run.block ?_ | refine Run.blk ?_ | refine Run.skip ?_))
      exact Run.ret1 Try.func14 rfl rfl (fun h q => hfold L a c vs D hh hvl h (take_sub (.cons s3 (.cons s0 (.cons s0 (.cons s0 .nil)))) h q)) ⟨rfl, rfl⟩
    have hs66 := sectors_le (show b.length ≤ 4096 by omega)
    (repeat (first | (apply Ops.q; rfl; rfl) | (apply Ops.gyB; rfl; rfl) | (apply Ops.gnB; rfl; decide) | (apply Ops.add; rfl; rfl; (constructor <;> omega)) | (apply Ops.sub; rfl; rfl; (constructor <;> omega)) | (apply Ops.rem; rfl; rfl; omega; omega) | (apply Ops.quo; rfl; rfl; (constructor <;> omega); omega) | (apply Ops.ld; rfl; (first | exact m0 | exact m1 | exact m2 | exact m3 | exact m4 | exact m5 | exact m6); rfl) | (apply Ops.st0; rfl; rfl; rfl; rfl; (first | exact u0 | exact u1 | exact u2 | exact u3 | exact u4 | exact u5); focus (simp; done)) | refine Ops.nil ?_ | refine Segs.nil ?_ | (apply Segs.oneS; rfl) | refine Run.seq ?_ | refine Run.reg ?_ | refine Run.block ?_ | refine Run.blk ?_ | refine Run.skip ?_))
    refine Ops.call1 rfl .nil (fun F' _ _ => log_sectors b.length (by omega) F') ?_
    rintro v G ⟨rfl, rfl⟩
    simp only [List.cons_append, List.nil_append]
    (repeat (first | (apply Ops.q; rfl; rfl) | (apply Ops.gyB; rfl; rfl) | (apply Ops.gnB; rfl; decide) | (apply Ops.add; rfl; rfl; (constructor <;> omega)) | (apply Ops.sub; rfl; rfl; (constructor <;> omega)) | (apply Ops.rem; rfl; rfl; omega; omega) | (apply Ops.quo; rfl; rfl; (constructor <;> omega); omega) | (apply Ops.ld; rfl; (first | exact m0 | exact m1 | exact m2 | exact m3 | exact m4 | exact m5 | exact m6); rfl) | (apply Ops.st0; rfl; rfl; rfl; rfl; (first | exact u0 | exact u1 | exact u2 | exact u3 | exact u4 | exact u5); focus (simp; done)) | refine Ops.nil ?_ | refine Segs.nil ?_ | (apply Segs.oneS; rfl) | refine Run.seq ?_ | refine Run.reg ?_ | refine Run.block ?_ | refine Run.blk ?_ | refine Run.skip ?_))
    refine Run.lp (Run.again (ih' (by omega) ⟨by omega, ?_⟩) (.cons rfl (.cons rfl (.cons rfl (.cons ?_ (.cons rfl (.cons rfl .nil)))))) (fun h q => q))
    · intro y hy
      rcases List.mem_append.1 hy with hy | hy
      · exact hall y hy
      · rw [List.mem_singleton] at hy; subst hy; omega
    · simp only [total, Nat.add_zero]; rfl
  have hie : i = bss.length := by omega
  subst hie
  rw [List.take_length] at *
  clear ih
  have hno : ¬ ∃ b ∈ bss, 4096 < b.length := by
    rintro ⟨b, hb, h4⟩
    have := hall b hb; omega
  rw [if_neg hno] at hres
  refine Run.exit rfl ?_
  (repeat (first | (apply Ops.q; rfl; rfl) | (apply Ops.gyB; rfl; rfl) | (apply Ops.gnB; rfl; decide) | (apply Ops.add; rfl; rfl; (constructor <;> omega)) | (apply Ops.sub; rfl; rfl; (constructor <;> omega)) | (apply Ops.rem; rfl; rfl; omega; omega) | (apply Ops.quo; rfl; rfl; (constructor <;> omega); omega) | (apply Ops.ld; rfl; (first | exact m0 | exact m1 | exact m2 | exact m3 | exact m4 | exact m5 | exact m6); rfl) | (apply Ops.st0; rfl; rfl; rfl; rfl; (first | exact u0 | exact u1 | exact u2 | exact u3 | exact u4 | exact u5); focus (simp; done)) | refine Ops.nil ?_ | refine Segs.nil ?_ | (apply Segs.oneS; rfl) | refine Run.seq ?_ | refine Run.reg ?_ | refine Run.block ?_ | refine Run.blk ?_ | refine Run.skip ?_))
  refine Ops.call1 rfl (.cons s3 .nil) (fun F' _ _ => log_half d D (by omega) F') ?_
  rintro v G ⟨rfl, rfl⟩
  simp only [List.cons_append, List.nil_append]
  (repeat (first | (apply Ops.q; rfl; rfl) | (apply Ops.gyB; rfl; rfl) | (apply Ops.gnB; rfl; decide) | (apply Ops.add; rfl; rfl; (constructor <;> omega)) | (apply Ops.sub; rfl; rfl; (constructor <;> omega)) | (apply Ops.rem; rfl; rfl; omega; omega) | (apply Ops.quo; rfl; rfl; (constructor <;> omega); omega) | (apply Ops.ld; rfl; (first | exact m0 | exact m1 | exact m2 | exact m3 | exact m4 | exact m5 | exact m6); rfl) | (apply Ops.st0; rfl; rfl; rfl; rfl; (first | exact u0 | exact u1 | exact u2 | exact u3 | exact u4 | exact u5); focus (simp; done)) | refine Ops.nil ?_ | refine Segs.nil ?_ | (apply Segs.oneS; rfl) | refine Run.seq ?_ | refine Run.reg ?_ | refine Run.block ?_ | refine Run.blk ?_ | refine Run.skip ?_))
  refine Run.condD rfl (fun h5 => ?_) (fun h5 => ?_)
  · rw [if_pos (by omega)] at hres
    subst hres
    (repeat (first | (apply Ops.q; rfl; rfl) | (apply Ops.gyB; rfl; rfl) | (apply Ops.gnB; rfl; decide) | (apply Ops.add; rfl; rfl; (constructor <;> omega)) | (apply Ops.sub; rfl; rfl; (constructor <;> omega)) | (apply Ops.rem; rfl; rfl; omega; omega) | (apply Ops.quo; rfl; rfl; (constructor <;> omega); omega) | (apply Ops.ld; rfl; (first | exact m0 | exact m1 | exact m2 | exact m3 | exact m4 | exact m5 | exact m6); rfl) | (apply Ops.st0; rfl; rfl; rfl; rfl; (first | exact u0 | exact u1 | exact u2 | exact u3 | exact u4 | exact u5); focus (simp; done)) | refine Ops.nil ?_ | refine Segs.nil ?_ | (apply Segs.oneS; rfl) | refine Run.seq ?_ | refine Run.reg ?_ | refine Run.block ?_ | refine Run.blk ?_ | refine Run.skip ?_))
    exact Run.ret1 Try.func14 rfl rfl (fun h q => hfold L a c vs D hh hvl h q) ⟨rfl, rfl⟩
  rw [if_neg (by omega)] at hres
  refine Run.skip ?_
  have htop := ok.top
  (repeat (first | (apply Ops.q; rfl; rfl) | (apply Ops.gyB; rfl; rfl) | (apply Ops.gnB; rfl; decide) | (apply Ops.add; rfl; rfl; (constructor <;> omega)) | (apply Ops.sub; rfl; rfl; (constructor <;> omega)) | (apply Ops.rem; rfl; rfl; omega; omega) | (apply Ops.quo; rfl; rfl; (constructor <;> omega); omega) | (apply Ops.ld; rfl; (first | exact m0 | exact m1 | exact m2 | exact m3 | exact m4 | exact m5 | exact m6); rfl) | (apply Ops.st0; rfl; rfl; rfl; rfl; (first | exact u0 | exact u1 | exact u2 | exact u3 | exact u4 | exact u5); focus (simp; done)) | refine Ops.nil ?_ | refine Segs.nil ?_ | (apply Segs.oneS; rfl) | refine Run.seq ?_ | refine Run.reg ?_ | refine Run.block ?_ | refine Run.blk ?_ | refine Run.skip ?_))
  have hhalf : (1 : Int) - (L.half : Int) = ((1 - L.half : Nat) : Int) := by omega
  rw [hhalf]
  have hd' : L.dead = false := by simpa using hd
  have hLa : L.anew.half ≤ 1 ∧ L.anew.pos = 0 ∧ L.anew.list.length = 0 ∧ L.anew.epoch ≤ 4294967291 ∧ L.anew.dead = false := ⟨by simp only [LogS.anew]; omega, rfl, rfl, by simp only [LogS.anew]; omega, hd'⟩
  refine Run.conseq (H' := [.pt l (.cells (lcells d L.anew none 0 0).toArray 55 (0, 0)), OwnS none 0 0 1 30 [], RowsP [] [], DiskP d D])
    (fun h q => take_sub (.cons s2 (.cons s0 (.cons s0 (.cons s0 .nil)))) h (own_new h (fold_grp (I := RowsI [] []) .nil .nil h (take_sub (.cons s1 (.cons s0 .nil)) h q)))) ?_
  have htb : total bss ≤ D.hf := by omega
  have hlan : L.anew.list = [] := rfl
  generalize L.anew = La at *
  refine Run.loopI (ι := Nat × LogS × DiskS × Option Addr × Nat × List Value) (fun x => bss.length - x.1)
    (fun x => x.1 ≤ bss.length ∧ x.2.1.list.length = x.1 ∧ x.2.2.2.2.2.length = x.1 ∧ x.2.1.half ≤ 1 ∧ x.2.1.epoch ≤ 4294967291 ∧ x.2.1.dead = false ∧ x.2.1.pos + total (bss.drop x.1) ≤ D.hf ∧ x.2.1.list.length ≤ x.2.1.pos ∧
      x.2.2.1.Ok ∧ x.2.2.1.kept.length = D.kept.length ∧ x.2.2.1.cache.length ≤ D.cache.length + x.2.1.pos ∧ rw_ La D bss = rw_ x.2.1 x.2.2.1 (bss.drop x.1))
    (fun x => [(70, .int .i64 x.1), (69, .int .i64 bss.length), (68, .slice oa bss.length oc), (0, .pointer (some ⟨l, 0, none⟩))])
    (fun x => [.pt l (.cells (lcells d x.2.1 x.2.2.2.1 x.1 x.2.2.2.2.1).toArray 55 (0, 0)), OwnS x.2.2.2.1 x.1 x.2.2.2.2.1 1 30 x.2.2.2.2.2, RowsP x.2.2.2.2.2 x.2.1.list, DiskP d x.2.2.1])
    (0, La, D, none, 0, []) ⟨Nat.zero_le _, hLa.2.2.1, rfl, hLa.1, hLa.2.2.2.1, hLa.2.2.2.2, by simp only [List.drop_zero]; omega, by simp only; omega, ok.disk, rfl, by simp only; omega, rfl⟩
    (.cons rfl (.cons rfl (.cons rfl (.cons rfl .nil)))) (fun h q => by simp only [hlan]; exact q) ?_
  rintro ⟨i, L', D', a', c', ws⟩ ⟨hi, hll, hwl, hh', he', hd2, htot, hlp, hok', hkl, hcl, hrw⟩ ih
  dsimp only at hi hll hwl hh' he' hd2 htot hlp hok' hkl hcl hrw ih ⊢
  unfold ec_log_Log_Rewrite_L0
  (repeat (first | (apply Ops.q; rfl; rfl) | (apply Ops.gyB; rfl; rfl) | (apply Ops.gnB; rfl; decide) | (apply Ops.add; rfl; rfl; (constructor <;> omega)) | (apply Ops.sub; rfl; rfl; (constructor <;> omega)) | (apply Ops.rem; rfl; rfl; omega; omega) | (apply Ops.quo; rfl; rfl; (constructor <;> omega); omega) | (apply Ops.ld; rfl; (first | exact m0 | exact m1 | exact m2 | exact m3 | exact m4 | exact m5 | exact m6); rfl) | (apply Ops.st0; rfl; rfl; rfl; rfl; (first | exact u0 | exact u1 | exact u2 | exact u3 | exact u4 | exact u5); focus (simp; done)) | refine Ops.nil ?_ | refine Segs.nil ?_ | (apply Segs.oneS; rfl) | refine Run.seq ?_ | refine Run.reg ?_ | refine Run.block ?_ | refine Run.blk ?_ | refine Run.skip ?_))
  refine Run.condD rfl (fun hlt => ?_) (fun hge => ?_)
  · have hlt' : i < bss.length := by omega
    have hel : bss[i]? = some bss[i] := List.getElem?_eq_getElem hlt'
    have hmem : bss[i] ∈ bss := List.getElem_mem hlt'
    have hb4 := hall _ hmem
    rcases hbb with hbb | ⟨ob, o, Lx, T, fz, rfl, hFb, hl, hrd⟩
    · rw [hbb] at hlt'; simp at hlt'
    obtain ⟨x, hx, hrx⟩ := hrd i _ hel
    have hdrop : bss.drop i = bss[i] :: bss.drop (i + 1) := List.drop_eq_getElem_cons hlt'
    generalize bss[i] = b at *
    rw [hdrop] at htot hrw
    simp only [total] at htot
    simp only [rw_] at hrw
    have ih' := fun L D a c w => ih (i + 1, L, D, a, c, w)
    dsimp only at ih'
    clear ih
    obtain ⟨xa, xc, rfl, _⟩ := id hrx
    have hs66 := sectors_le hb4
    have hf' := hf_eq hkl
    have hsz' := hok'.size
    have hcl' := cutOf_len L'.list.length L'.epoch b
    have hca := cutOf_all L'.list.length L'.epoch b
    (repeat (first | (apply Ops.q; rfl; rfl) | (apply Ops.gyB; rfl; rfl) | (apply Ops.gnB; rfl; decide) | (apply Ops.add; rfl; rfl; (constructor <;> omega)) | (apply Ops.sub; rfl; rfl; (constructor <;> omega)) | (apply Ops.rem; rfl; rfl; omega; omega) | (apply Ops.quo; rfl; rfl; (constructor <;> omega); omega) | (apply Ops.ld; rfl; (first | exact m0 | exact m1 | exact m2 | exact m3 | exact m4 | exact m5 | exact m6); rfl) | (apply Ops.st0; rfl; rfl; rfl; rfl; (first | exact u0 | exact u1 | exact u2 | exact u3 | exact u4 | exact u5); focus (simp; done)) | refine Ops.nil ?_ | refine Segs.nil ?_ | (apply Segs.oneS; rfl) | refine Run.seq ?_ | refine Run.reg ?_ | refine Run.block ?_ | refine Run.blk ?_ | refine Run.skip ?_))
    refine Ops.ixS rfl rfl ⟨by omega, by omega⟩ ?_
    refine Ops.ldF rfl hFb (by rw [Int.toNat_natCast, Nat.mul_one]; exact hx) ?_
    (repeat (first | (apply Ops.q; rfl; rfl) | (apply Ops.gyB; rfl; rfl) | (apply Ops.gnB; rfl; decide) | (apply Ops.add; rfl; rfl; (constructor <;> omega)) | (apply Ops.sub; rfl; rfl; (constructor <;> omega)) | (apply Ops.rem; rfl; rfl; omega; omega) | (apply Ops.quo; rfl; rfl; (constructor <;> omega); omega) | (apply Ops.ld; rfl; (first | exact m0 | exact m1 | exact m2 | exact m3 | exact m4 | exact m5 | exact m6); rfl) | (apply Ops.st0; rfl; rfl; rfl; rfl; (first | exact u0 | exact u1 | exact u2 | exact u3 | exact u4 | exact u5); focus (simp; done)) | refine Ops.nil ?_ | refine Segs.nil ?_ | (apply Segs.oneS; rfl) | refine Run.seq ?_ | refine Run.reg ?_ | refine Run.block ?_ | refine Run.blk ?_ | refine Run.skip ?_))
    refine Segs.lend [_] (.cons s0 .nil) fun F1 x1 k1 => ?_
    (repeat (first | (apply Ops.q; rfl; rfl) | (apply Ops.gyB; rfl; rfl) | (apply Ops.gnB; rfl; decide) | (apply Ops.add; rfl; rfl; (constructor <;> omega)) | (apply Ops.sub; rfl; rfl; (constructor <;> omega)) | (apply Ops.rem; rfl; rfl; omega; omega) | (apply Ops.quo; rfl; rfl; (constructor <;> omega); omega) | (apply Ops.ld; rfl; (first | exact m0 | exact m1 | exact m2 | exact m3 | exact m4 | exact m5 | exact m6); rfl) | (apply Ops.st0; rfl; rfl; rfl; rfl; (first | exact u0 | exact u1 | exact u2 | exact u3 | exact u4 | exact u5); focus (simp; done)) | refine Ops.nil ?_ | refine Segs.nil ?_ | (apply Segs.oneS; rfl) | refine Run.seq ?_ | refine Run.reg ?_ | refine Run.block ?_ | refine Run.blk ?_ | refine Run.skip ?_))
    refine Ops.ldF rfl (k1 _ _ m0) rfl ?_
    refine Ops.call1 rfl .nil (fun F' e kn => log_cut l d L' a' i c' (by omega) i (by omega) _ b (by omega) F' ((hrx.ext x1).ext e) (e _ _ (k1 _ _ m0))) ?_
    rintro v G ⟨o2, rfl, rfl⟩
    simp only [List.cons_append, List.nil_append]
    rw [← hll, ← hcl']
    generalize cutOf L'.list.length L'.epoch b = ss at *
    refine Ops.nil (Segs.oneS rfl ?_)
    refine Ops.call1 rfl (.cons s4 .nil) (fun F' e kn => log_put l d L' a' i c' D' hok' (by omega) hh' L'.pos (by omega) _ ss (by omega) F' (rdS_cells (kn _ _ m1) hca rfl (Nat.le_refl _)) (by rw [← hll]; exact kn _ _ m0)) ?_
    rintro v G ⟨rfl, rfl⟩
    simp only [List.cons_append, List.nil_append]
    have hp2 := DiskS.put_spec ss D' (L'.base D' L'.pos) hok' hca (by omega)
    generalize D'.put (L'.base D' L'.pos) ss = r at *
    (repeat (first | (apply Ops.q; rfl; rfl) | (apply Ops.gyB; rfl; rfl) | (apply Ops.gnB; rfl; decide) | (apply Ops.add; rfl; rfl; (constructor <;> omega)) | (apply Ops.sub; rfl; rfl; (constructor <;> omega)) | (apply Ops.rem; rfl; rfl; omega; omega) | (apply Ops.quo; rfl; rfl; (constructor <;> omega); omega) | (apply Ops.ld; rfl; (first | exact m0 | exact m1 | exact m2 | exact m3 | exact m4 | exact m5 | exact m6); rfl) | (apply Ops.st0; rfl; rfl; rfl; rfl; (first | exact u0 | exact u1 | exact u2 | exact u3 | exact u4 | exact u5); focus (simp; done)) | refine Ops.nil ?_ | refine Segs.nil ?_ | (apply Segs.oneS; rfl) | refine Run.seq ?_ | refine Run.reg ?_ | refine Run.block ?_ | refine Run.blk ?_ | refine Run.skip ?_))
    by_cases he : r.1 = 0
    · rw [if_pos he] at hrw
      refine Run.condF (by simp [he, get, look]) ?_
      refine Run.skip ?_
      refine Run.again (l' := [(9, .slice xa b.length xc), (70, .int .i64 L'.list.length), (69, .int .i64 bss.length), (68, .slice (some ⟨ob, o, none⟩) bss.length oc), (0, .pointer (some ⟨l, 0, none⟩))])
        (H' := [.pt l (.cells (lcells d L' a' L'.list.length c').toArray 55 (0, 0)), OwnS a' L'.list.length c' 1 30 ws, RowsP ws L'.list, DiskP d r.2]) ?_
        (.cons rfl (.cons rfl (.cons rfl (.cons rfl (.cons rfl .nil))))) (fun h q => take_sub (.cons s1 (.cons s2 (.cons s2 (.cons s0 .nil)))) h q)
      clear k1 x1 F1
      (repeat (first | (apply Ops.q; rfl; rfl) | (apply Ops.gyB; rfl; rfl) | (apply Ops.gnB; rfl; decide) | (apply Ops.add; rfl; rfl; (constructor <;> omega)) | (apply Ops.sub; rfl; rfl; (constructor <;> omega)) | (apply Ops.rem; rfl; rfl; omega; omega) | (apply Ops.quo; rfl; rfl; (constructor <;> omega); omega) | (apply Ops.ld; rfl; (first | exact m0 | exact m1 | exact m2 | exact m3 | exact m4 | exact m5 | exact m6); rfl) | (apply Ops.st0; rfl; rfl; rfl; rfl; (first | exact u0 | exact u1 | exact u2 | exact u3 | exact u4 | exact u5); focus (simp; done)) | refine Ops.nil ?_ | refine Segs.nil ?_ | (apply Segs.oneS; rfl) | refine Run.seq ?_ | refine Run.reg ?_ | refine Run.block ?_ | refine Run.blk ?_ | refine Run.skip ?_))
      refine Segs.lend [_] (.cons s0 .nil) fun F1 x1 k1 => ?_
      (repeat (first | (apply Ops.q; rfl; rfl) | (apply Ops.gyB; rfl; rfl) | (apply Ops.gnB; rfl; decide) | (apply Ops.add; rfl; rfl; (constructor <;> omega)) | (apply Ops.sub; rfl; rfl; (constructor <;> omega)) | (apply Ops.rem; rfl; rfl; omega; omega) | (apply Ops.quo; rfl; rfl; (constructor <;> omega); omega) | (apply Ops.ld; rfl; (first | exact m0 | exact m1 | exact m2 | exact m3 | exact m4 | exact m5 | exact m6); rfl) | (apply Ops.st0; rfl; rfl; rfl; rfl; (first | exact u0 | exact u1 | exact u2 | exact u3 | exact u4 | exact u5); focus (simp; done)) | refine Ops.nil ?_ | refine Segs.nil ?_ | (apply Segs.oneS; rfl) | refine Run.seq ?_ | refine Run.reg ?_ | refine Run.block ?_ | refine Run.blk ?_ | refine Run.skip ?_))
      refine Ops.ldF rfl (k1 _ _ m0) rfl ?_
      refine Ops.call1 rfl .nil (fun F' _ _ => log_sectors b.length (by omega) F') ?_
      rintro v G ⟨rfl, rfl⟩
      simp only [List.cons_append, List.nil_append]
      refine Ops.nil (Segs.oneS rfl ?_)
      (repeat (first | (apply Ops.q; rfl; rfl) | (apply Ops.gyB; rfl; rfl) | (apply Ops.gnB; rfl; decide) | (apply Ops.add; rfl; rfl; (constructor <;> omega)) | (apply Ops.sub; rfl; rfl; (constructor <;> omega)) | (apply Ops.rem; rfl; rfl; omega; omega) | (apply Ops.quo; rfl; rfl; (constructor <;> omega); omega) | (apply Ops.ld; rfl; (first | exact m0 | exact m1 | exact m2 | exact m3 | exact m4 | exact m5 | exact m6); rfl) | (apply Ops.st0; rfl; rfl; rfl; rfl; (first | exact u0 | exact u1 | exact u2 | exact u3 | exact u4 | exact u5); focus (simp; done)) | refine Ops.nil ?_ | refine Segs.nil ?_ | (apply Segs.oneS; rfl) | refine Run.seq ?_ | refine Run.reg ?_ | refine Run.block ?_ | refine Run.blk ?_ | refine Run.skip ?_))
      clear k1 x1 F1
      refine Segs.lend [_] (.cons s0 .nil) fun F1 x1 k1 => ?_
      (repeat (first | (apply Ops.q; rfl; rfl) | (apply Ops.gyB; rfl; rfl) | (apply Ops.gnB; rfl; decide) | (apply Ops.add; rfl; rfl; (constructor <;> omega)) | (apply Ops.sub; rfl; rfl; (constructor <;> omega)) | (apply Ops.rem; rfl; rfl; omega; omega) | (apply Ops.quo; rfl; rfl; (constructor <;> omega); omega) | (apply Ops.ld; rfl; (first | exact m0 | exact m1 | exact m2 | exact m3 | exact m4 | exact m5 | exact m6); rfl) | (apply Ops.st0; rfl; rfl; rfl; rfl; (first | exact u0 | exact u1 | exact u2 | exact u3 | exact u4 | exact u5); focus (simp; done)) | refine Ops.nil ?_ | refine Segs.nil ?_ | (apply Segs.oneS; rfl) | refine Run.seq ?_ | refine Run.reg ?_ | refine Run.block ?_ | refine Run.blk ?_ | refine Run.skip ?_))
      refine Ops.ldF rfl (k1 _ _ m0) rfl ?_
      refine Ops.appN (ys := bvs b) rfl rfl rfl (fun w h q f => (hrx.ext x1).shows w h q f) (bvs_one b) (by rw [bvs_len]; exact (Nat.mul_one _).symm) (by decide) (app_fit (by omega) (by decide)) fun a1 c1 => ?_
      refine Ops.lit [.slice a1 b.length c1] rfl rfl fun b1 => ?_
      refine Ops.nil (Segs.oneS rfl ?_)
      simp only [List.cons_append, List.nil_append]
      refine Ops.app (m := 1) (ys := [.slice a1 b.length c1]) rfl rfl rfl s3 (shows_pt m1 (Nat.le_refl 1) rfl) (fun v hv => by rw [List.mem_singleton] at hv; subst hv; rfl) rfl (by decide) (app_fit (by omega) (by decide)) fun a2 c2 => ?_
      (repeat (first | (apply Ops.q; rfl; rfl) | (apply Ops.gyB; rfl; rfl) | (apply Ops.gnB; rfl; decide) | (apply Ops.add; rfl; rfl; (constructor <;> omega)) | (apply Ops.sub; rfl; rfl; (constructor <;> omega)) | (apply Ops.rem; rfl; rfl; omega; omega) | (apply Ops.quo; rfl; rfl; (constructor <;> omega); omega) | (apply Ops.ld; rfl; (first | exact m0 | exact m1 | exact m2 | exact m3 | exact m4 | exact m5 | exact m6); rfl) | (apply Ops.st0; rfl; rfl; rfl; rfl; (first | exact u0 | exact u1 | exact u2 | exact u3 | exact u4 | exact u5); focus (simp; done)) | refine Ops.nil ?_ | refine Segs.nil ?_ | (apply Segs.oneS; rfl) | refine Run.seq ?_ | refine Run.reg ?_ | refine Run.block ?_ | refine Run.blk ?_ | refine Run.skip ?_))
      refine Run.lp (Run.again (ih' { L' with pos := L'.pos + sectorsOf b.length, list := L'.list ++ [b] } r.2 a2 c2 (ws ++ [.slice a1 b.length c1]) (by omega)
        ⟨by omega, by simp [hll], by simp [hwl], hh', he', hd2, by dsimp only; omega, by simp only [List.length_append, List.length_singleton]; omega, hp2.1, by omega, by dsimp only; omega, hrw⟩)
        (.cons (by rw [← hll]; rfl) (.cons rfl (.cons rfl (.cons rfl .nil)))) (fun h q => ?_))
      rw [← hll]
      exact take_sub (.cons s1 (.cons s1 (.cons s0 (.cons s0 .nil)))) h (rows_snoc h (take_sub (.cons s4 (.cons s3 (.cons s1 (.cons s0 (.cons s1 .nil))))) h q))
    · rw [if_neg he] at hrw
      rw [hrw] at hres
      unfold endRw at hres
      rw [if_neg he] at hres
      subst hres
      refine Run.condT (by simp [he, get, look]) ?_
      (repeat (first | (apply Ops.q; rfl; rfl) | (apply Ops.gyB; rfl; rfl) | (apply Ops.gnB; rfl; decide) | (apply Ops.add; rfl; rfl; (constructor <;> omega)) | (apply Ops.sub; rfl; rfl; (constructor <;> omega)) | (apply Ops.rem; rfl; rfl; omega; omega) | (apply Ops.quo; rfl; rfl; (constructor <;> omega); omega) | (apply Ops.ld; rfl; (first | exact m0 | exact m1 | exact m2 | exact m3 | exact m4 | exact m5 | exact m6); rfl) | (apply Ops.st0; rfl; rfl; rfl; rfl; (first | exact u0 | exact u1 | exact u2 | exact u3 | exact u4 | exact u5); focus (simp; done)) | refine Ops.nil ?_ | refine Segs.nil ?_ | (apply Segs.oneS; rfl) | refine Run.seq ?_ | refine Run.reg ?_ | refine Run.block ?_ | refine Run.blk ?_ | refine Run.skip ?_))
      refine Ops.call1 rfl (.cons s1 .nil) (fun F' e kn => log_die l d L' a' L'.list.length c' r.1 F') ?_
      rintro v G ⟨rfl, rfl⟩
      simp only [List.cons_append, List.nil_append]
      (repeat (first | (apply Ops.q; rfl; rfl) | (apply Ops.gyB; rfl; rfl) | (apply Ops.gnB; rfl; decide) | (apply Ops.add; rfl; rfl; (constructor <;> omega)) | (apply Ops.sub; rfl; rfl; (constructor <;> omega)) | (apply Ops.rem; rfl; rfl; omega; omega) | (apply Ops.quo; rfl; rfl; (constructor <;> omega); omega) | (apply Ops.ld; rfl; (first | exact m0 | exact m1 | exact m2 | exact m3 | exact m4 | exact m5 | exact m6); rfl) | (apply Ops.st0; rfl; rfl; rfl; rfl; (first | exact u0 | exact u1 | exact u2 | exact u3 | exact u4 | exact u5); focus (simp; done)) | refine Ops.nil ?_ | refine Segs.nil ?_ | (apply Segs.oneS; rfl) | refine Run.seq ?_ | refine Run.reg ?_ | refine Run.block ?_ | refine Run.blk ?_ | refine Run.skip ?_))
      refine Run.ret1 Try.func14 rfl rfl (fun h q => hfold { L' with dead := true } a' c' ws r.2 hh' (by rw [hwl, hll]) h ?_) ⟨rfl, rfl⟩
      have : (L'.dead || decide (r.1 ≠ 0)) = true := by simp [he]
      rw [this] at q
      rw [hwl, ← hll]
      exact take_sub (.cons s1 (.cons s0 (.cons s1 (.cons s1 .nil)))) h q
  · have hie2 : i = bss.length := by omega
    subst hie2
    rw [List.drop_length] at hrw
    simp only [rw_] at hrw
    rw [hrw] at hres
    unfold endRw at hres
    rw [if_pos rfl] at hres
    dsimp only at hres
    refine Run.exit rfl ?_
    have hcb : D'.cache.length + 100 ≤ 1099511627776 := by omega
    clear ih hrw hge htot hlp hLa
    have hsz' := hok'.size
    have hfin : finish L' D' = if D'.flush.1 = 0 then (if (D'.flush.2.write L'.half (headSect L'.epoch)).1 = 0 then (D'.flush.2.write L'.half (headSect L'.epoch)).2.flush else D'.flush.2.write L'.half (headSect L'.epoch)) else D'.flush := rfl
    generalize finish L' D' = fin at *
    have hfc := DiskS.flush_cache D'
    have hok1 := hok'.flush
    have hk1 := DiskS.flush_kept_len D'
    (repeat (first | (apply Ops.q; rfl; rfl) | (apply Ops.gyB; rfl; rfl) | (apply Ops.gnB; rfl; decide) | (apply Ops.add; rfl; rfl; (constructor <;> omega)) | (apply Ops.sub; rfl; rfl; (constructor <;> omega)) | (apply Ops.rem; rfl; rfl; omega; omega) | (apply Ops.quo; rfl; rfl; (constructor <;> omega); omega) | (apply Ops.ld; rfl; (first | exact m0 | exact m1 | exact m2 | exact m3 | exact m4 | exact m5 | exact m6); rfl) | (apply Ops.st0; rfl; rfl; rfl; rfl; (first | exact u0 | exact u1 | exact u2 | exact u3 | exact u4 | exact u5); focus (simp; done)) | refine Ops.nil ?_ | refine Segs.nil ?_ | (apply Segs.oneS; rfl) | refine Run.seq ?_ | refine Run.reg ?_ | refine Run.block ?_ | refine Run.blk ?_ | refine Run.skip ?_))
    refine Ops.call1 rfl (.cons s3 .nil) (fun F' _ _ => disk_Flush d D' F') ?_
    rintro v G ⟨rfl, rfl⟩
    simp only [List.cons_append, List.nil_append]
    generalize D'.flush = r1 at *
    (repeat (first | (apply Ops.q; rfl; rfl) | (apply Ops.gyB; rfl; rfl) | (apply Ops.gnB; rfl; decide) | (apply Ops.add; rfl; rfl; (constructor <;> omega)) | (apply Ops.sub; rfl; rfl; (constructor <;> omega)) | (apply Ops.rem; rfl; rfl; omega; omega) | (apply Ops.quo; rfl; rfl; (constructor <;> omega); omega) | (apply Ops.ld; rfl; (first | exact m0 | exact m1 | exact m2 | exact m3 | exact m4 | exact m5 | exact m6); rfl) | (apply Ops.st0; rfl; rfl; rfl; rfl; (first | exact u0 | exact u1 | exact u2 | exact u3 | exact u4 | exact u5); focus (simp; done)) | refine Ops.nil ?_ | refine Segs.nil ?_ | (apply Segs.oneS; rfl) | refine Run.seq ?_ | refine Run.reg ?_ | refine Run.block ?_ | refine Run.blk ?_ | refine Run.skip ?_))
    by_cases he1 : r1.1 = 0
    case neg =>
      rw [if_neg he1] at hfin
      subst hfin
      subst hres
      refine Run.condT (by simp [he1, get, look]) ?_
      (repeat (first | (apply Ops.q; rfl; rfl) | (apply Ops.gyB; rfl; rfl) | (apply Ops.gnB; rfl; decide) | (apply Ops.add; rfl; rfl; (constructor <;> omega)) | (apply Ops.sub; rfl; rfl; (constructor <;> omega)) | (apply Ops.rem; rfl; rfl; omega; omega) | (apply Ops.quo; rfl; rfl; (constructor <;> omega); omega) | (apply Ops.ld; rfl; (first | exact m0 | exact m1 | exact m2 | exact m3 | exact m4 | exact m5 | exact m6); rfl) | (apply Ops.st0; rfl; rfl; rfl; rfl; (first | exact u0 | exact u1 | exact u2 | exact u3 | exact u4 | exact u5); focus (simp; done)) | refine Ops.nil ?_ | refine Segs.nil ?_ | (apply Segs.oneS; rfl) | refine Run.seq ?_ | refine Run.reg ?_ | refine Run.block ?_ | refine Run.blk ?_ | refine Run.skip ?_))
      refine Ops.call1 rfl (.cons s1 .nil) (fun F' e kn => log_die l d L' a' bss.length c' fin.1 F') ?_
      rintro v G ⟨rfl, rfl⟩
      simp only [List.cons_append, List.nil_append]
      (repeat (first | (apply Ops.q; rfl; rfl) | (apply Ops.gyB; rfl; rfl) | (apply Ops.gnB; rfl; decide) | (apply Ops.add; rfl; rfl; (constructor <;> omega)) | (apply Ops.sub; rfl; rfl; (constructor <;> omega)) | (apply Ops.rem; rfl; rfl; omega; omega) | (apply Ops.quo; rfl; rfl; (constructor <;> omega); omega) | (apply Ops.ld; rfl; (first | exact m0 | exact m1 | exact m2 | exact m3 | exact m4 | exact m5 | exact m6); rfl) | (apply Ops.st0; rfl; rfl; rfl; rfl; (first | exact u0 | exact u1 | exact u2 | exact u3 | exact u4 | exact u5); focus (simp; done)) | refine Ops.nil ?_ | refine Segs.nil ?_ | (apply Segs.oneS; rfl) | refine Run.seq ?_ | refine Run.reg ?_ | refine Run.block ?_ | refine Run.blk ?_ | refine Run.skip ?_))
      refine Run.ret1 Try.func14 rfl rfl (fun h q => hfold { L' with dead := L'.dead || decide (fin.1 ≠ 0) } a' c' ws fin.2 hh' (by rw [hwl, hll]) h ?_) ⟨rfl, rfl⟩
      rw [hwl]
      exact take_sub (.cons s1 (.cons s0 (.cons s0 (.cons s0 .nil)))) h q
    rw [if_pos he1] at hfin
    refine Run.condF (by simp [he1, get, look]) ?_
    refine Run.skip ?_
    refine Run.again (l' := [(0, .pointer (some ⟨l, 0, none⟩))]) (H' := [.pt l (.cells (lcells d L' a' bss.length c').toArray 55 (0, 0)), OwnS a' bss.length c' 1 30 ws, RowsP ws L'.list, DiskP d r1.2]) ?_
      (.cons rfl .nil) (fun h q => take_sub (.cons s1 (.cons s1 (.cons s1 (.cons s0 .nil)))) h q)
    refine Run.seq (Run.reg (Segs.oneS rfl (Ops.alloc fun b12 => ?_)))
    (repeat (first | (apply Ops.q; rfl; rfl) | (apply Ops.gyB; rfl; rfl) | (apply Ops.gnB; rfl; decide) | (apply Ops.add; rfl; rfl; (constructor <;> omega)) | (apply Ops.sub; rfl; rfl; (constructor <;> omega)) | (apply Ops.rem; rfl; rfl; omega; omega) | (apply Ops.quo; rfl; rfl; (constructor <;> omega); omega) | (apply Ops.ld; rfl; (first | exact m0 | exact m1 | exact m2 | exact m3 | exact m4 | exact m5 | exact m6); rfl) | (apply Ops.st0; rfl; rfl; rfl; rfl; (first | exact u0 | exact u1 | exact u2 | exact u3 | exact u4 | exact u5); focus (simp; done)) | refine Ops.nil ?_ | refine Segs.nil ?_ | (apply Segs.oneS; rfl) | refine Run.seq ?_ | refine Run.reg ?_ | refine Run.block ?_ | refine Run.blk ?_ | refine Run.skip ?_))
    refine Ops.ixA rfl rfl ⟨by omega, by omega⟩ ?_
    refine Ops.st0 rfl rfl rfl rfl u0 (by simp [zl64_intu80]) ?_
    have hs0 : zl64_intu80.set (0 + Int.toNat 0 * 1) (Value.int .u8 1) = bvs (1 :: List.replicate 63 0) := rfl
    rw [hs0]
    (repeat (first | (apply Ops.q; rfl; rfl) | (apply Ops.gyB; rfl; rfl) | (apply Ops.gnB; rfl; decide) | (apply Ops.add; rfl; rfl; (constructor <;> omega)) | (apply Ops.sub; rfl; rfl; (constructor <;> omega)) | (apply Ops.rem; rfl; rfl; omega; omega) | (apply Ops.quo; rfl; rfl; (constructor <;> omega); omega) | (apply Ops.ld; rfl; (first | exact m0 | exact m1 | exact m2 | exact m3 | exact m4 | exact m5 | exact m6); rfl) | (apply Ops.st0; rfl; rfl; rfl; rfl; (first | exact u0 | exact u1 | exact u2 | exact u3 | exact u4 | exact u5); focus (simp; done)) | refine Ops.nil ?_ | refine Segs.nil ?_ | (apply Segs.oneS; rfl) | refine Run.seq ?_ | refine Run.reg ?_ | refine Run.block ?_ | refine Run.blk ?_ | refine Run.skip ?_))
    refine Ops.slA (l1 := 1) (h1 := 64) rfl rfl rfl (by omega) (by omega) fun a1 ha1 => ?_
    have ha1' : a1 = some ⟨b12, 1, none⟩ := by
      rcases ha1 with h | h
      · exact h
      · omega
    subst ha1'
    (repeat (first | (apply Ops.q; rfl; rfl) | (apply Ops.gyB; rfl; rfl) | (apply Ops.gnB; rfl; decide) | (apply Ops.add; rfl; rfl; (constructor <;> omega)) | (apply Ops.sub; rfl; rfl; (constructor <;> omega)) | (apply Ops.rem; rfl; rfl; omega; omega) | (apply Ops.quo; rfl; rfl; (constructor <;> omega); omega) | (apply Ops.ld; rfl; (first | exact m0 | exact m1 | exact m2 | exact m3 | exact m4 | exact m5 | exact m6); rfl) | (apply Ops.st0; rfl; rfl; rfl; rfl; (first | exact u0 | exact u1 | exact u2 | exact u3 | exact u4 | exact u5); focus (simp; done)) | refine Ops.nil ?_ | refine Segs.nil ?_ | (apply Segs.oneS; rfl) | refine Run.seq ?_ | refine Run.reg ?_ | refine Run.block ?_ | refine Run.blk ?_ | refine Run.skip ?_))
    refine Ops.call1 rfl .nil (fun F' _ _ => rec_Num L'.epoch (by omega) F') ?_
    rintro v G ⟨bq, rfl, rfl⟩
    simp only [List.cons_append, List.nil_append]
    (repeat (first | (apply Ops.q; rfl; rfl) | (apply Ops.gyB; rfl; rfl) | (apply Ops.gnB; rfl; decide) | (apply Ops.add; rfl; rfl; (constructor <;> omega)) | (apply Ops.sub; rfl; rfl; (constructor <;> omega)) | (apply Ops.rem; rfl; rfl; omega; omega) | (apply Ops.quo; rfl; rfl; (constructor <;> omega); omega) | (apply Ops.ld; rfl; (first | exact m0 | exact m1 | exact m2 | exact m3 | exact m4 | exact m5 | exact m6); rfl) | (apply Ops.st0; rfl; rfl; rfl; rfl; (first | exact u0 | exact u1 | exact u2 | exact u3 | exact u4 | exact u5); focus (simp; done)) | refine Ops.nil ?_ | refine Segs.nil ?_ | (apply Segs.oneS; rfl) | refine Run.seq ?_ | refine Run.reg ?_ | refine Run.block ?_ | refine Run.blk ?_ | refine Run.skip ?_))
    refine Ops.cpy (s := 1) (m := 4) (vs := bvs (le4 L'.epoch)) rfl rfl rfl (shows_pt m0 (Nat.le_refl 4) rfl) (bvs_one _) u1 (show 5 ≤ 64 by decide) ?_
    have hs1 : List.take 1 (bvs (1 :: List.replicate 63 0)) ++ bvs (le4 L'.epoch) ++ List.drop (1 + (bvs (le4 L'.epoch)).length) (bvs (1 :: List.replicate 63 0)) = bvs (1 :: (le4 L'.epoch ++ List.replicate 59 0)) := rfl
    rw [hs1]
    refine Ops.nil (Segs.nil (Run.again (l' := [(12, .pointer (some ⟨b12, 0, none⟩)), (0, .pointer (some ⟨l, 0, none⟩))])
      (H' := [.pt b12 (.cells (bvs (1 :: (le4 L'.epoch ++ List.replicate 59 0))).toArray 57 (0, 0)), .pt l (.cells (lcells d L' a' bss.length c').toArray 55 (0, 0)), OwnS a' bss.length c' 1 30 ws, RowsP ws L'.list, DiskP d r1.2]) ?_
      (.cons rfl (.cons rfl .nil)) (fun h q => take_sub (.cons s1 (.cons s1 (.cons s1 (.cons s1 (.cons s1 .nil))))) h q)))
    (repeat (first | (apply Ops.q; rfl; rfl) | (apply Ops.gyB; rfl; rfl) | (apply Ops.gnB; rfl; decide) | (apply Ops.add; rfl; rfl; (constructor <;> omega)) | (apply Ops.sub; rfl; rfl; (constructor <;> omega)) | (apply Ops.rem; rfl; rfl; omega; omega) | (apply Ops.quo; rfl; rfl; (constructor <;> omega); omega) | (apply Ops.ld; rfl; (first | exact m0 | exact m1 | exact m2 | exact m3 | exact m4 | exact m5 | exact m6); rfl) | (apply Ops.st0; rfl; rfl; rfl; rfl; (first | exact u0 | exact u1 | exact u2 | exact u3 | exact u4 | exact u5); focus (simp; done)) | refine Ops.nil ?_ | refine Segs.nil ?_ | (apply Segs.oneS; rfl) | refine Run.seq ?_ | refine Run.reg ?_ | refine Run.block ?_ | refine Run.blk ?_ | refine Run.skip ?_))
    refine Ops.slA (l1 := 5) (h1 := 64) rfl rfl rfl (by omega) (by omega) fun a1 ha1 => ?_
    have ha1' : a1 = some ⟨b12, 5, none⟩ := by
      rcases ha1 with h | h
      · exact h
      · omega
    subst ha1'
    refine Ops.slA (l1 := 0) (h1 := 5) rfl rfl rfl (by omega) (by omega) fun a2 ha2 => ?_
    refine Ops.lit [.slice a2 5 64] rfl rfl fun b9 => ?_
    (repeat (first | (apply Ops.q; rfl; rfl) | (apply Ops.gyB; rfl; rfl) | (apply Ops.gnB; rfl; decide) | (apply Ops.add; rfl; rfl; (constructor <;> omega)) | (apply Ops.sub; rfl; rfl; (constructor <;> omega)) | (apply Ops.rem; rfl; rfl; omega; omega) | (apply Ops.quo; rfl; rfl; (constructor <;> omega); omega) | (apply Ops.ld; rfl; (first | exact m0 | exact m1 | exact m2 | exact m3 | exact m4 | exact m5 | exact m6); rfl) | (apply Ops.st0; rfl; rfl; rfl; rfl; (first | exact u0 | exact u1 | exact u2 | exact u3 | exact u4 | exact u5); focus (simp; done)) | refine Ops.nil ?_ | refine Segs.nil ?_ | (apply Segs.oneS; rfl) | refine Run.seq ?_ | refine Run.reg ?_ | refine Run.block ?_ | refine Run.blk ?_ | refine Run.skip ?_))
    refine Ops.call1 rfl .nil (fun F' e kn => crc_Of _ [1 :: le4 L'.epoch] F' (rdBB_mk0 (kn _ _ m0) (.cons (rdB_at (kn _ _ m1) 5 (o := 0) (by simp [le4_len]) ha2) .nil) rfl) (by simp) (by simp [le4_len])) ?_
    rintro v G ⟨rfl, rfl⟩
    simp only [List.cons_append, List.nil_append]
    have hsum : crcOf [1 :: le4 L'.epoch].flatten = crcOf (1 :: le4 L'.epoch) := by simp
    rw [hsum]
    have hcl := crcOf_lt (1 :: le4 L'.epoch)
    have hhs : headSect L'.epoch = 1 :: (le4 L'.epoch ++ (le4 (crcOf (1 :: le4 L'.epoch)) ++ List.replicate 55 0)) := rfl
    generalize crcOf (1 :: le4 L'.epoch) = sum at *
    refine Ops.nil (Segs.oneS rfl ?_)
    refine Ops.pE (v' := .int .i64 sum) rfl (by rw [wrap_i64 (by omega) (by omega)]) ?_
    refine Ops.call1 rfl .nil (fun F' _ _ => rec_Num sum hcl F') ?_
    rintro v G ⟨bq2, rfl, rfl⟩
    simp only [List.cons_append, List.nil_append]
    (repeat (first | (apply Ops.q; rfl; rfl) | (apply Ops.gyB; rfl; rfl) | (apply Ops.gnB; rfl; decide) | (apply Ops.add; rfl; rfl; (constructor <;> omega)) | (apply Ops.sub; rfl; rfl; (constructor <;> omega)) | (apply Ops.rem; rfl; rfl; omega; omega) | (apply Ops.quo; rfl; rfl; (constructor <;> omega); omega) | (apply Ops.ld; rfl; (first | exact m0 | exact m1 | exact m2 | exact m3 | exact m4 | exact m5 | exact m6); rfl) | (apply Ops.st0; rfl; rfl; rfl; rfl; (first | exact u0 | exact u1 | exact u2 | exact u3 | exact u4 | exact u5); focus (simp; done)) | refine Ops.nil ?_ | refine Segs.nil ?_ | (apply Segs.oneS; rfl) | refine Run.seq ?_ | refine Run.reg ?_ | refine Run.block ?_ | refine Run.blk ?_ | refine Run.skip ?_))
    refine Ops.cpy (s := 1) (m := 4) (vs := bvs (le4 sum)) rfl rfl rfl (shows_pt m0 (Nat.le_refl 4) rfl) (bvs_one _) u2 (show 9 ≤ 64 by decide) ?_
    have hs2 : List.take 5 (bvs (1 :: (le4 L'.epoch ++ List.replicate 59 0))) ++ bvs (le4 sum) ++ List.drop (5 + (bvs (le4 sum)).length) (bvs (1 :: (le4 L'.epoch ++ List.replicate 59 0))) = bvs (1 :: (le4 L'.epoch ++ (le4 sum ++ List.replicate 55 0))) := rfl
    rw [hs2, ← hhs]
    have hhl := headSect_len L'.epoch
    generalize headSect L'.epoch = hs at *
    refine Ops.nil (Segs.nil (Run.again (l' := [(12, .pointer (some ⟨b12, 0, none⟩)), (0, .pointer (some ⟨l, 0, none⟩))])
      (H' := [.pt l (.cells (lcells d L' a' bss.length c').toArray 55 (0, 0)), .pt b12 (.cells (bvs hs).toArray 57 (0, 0)), OwnS a' bss.length c' 1 30 ws, RowsP ws L'.list, DiskP d r1.2]) ?_
      (.cons rfl (.cons rfl .nil)) (fun h q => take_sub (.cons s3 (.cons s2 (.cons s2 (.cons s2 (.cons s2 .nil))))) h q)))
    (repeat (first | (apply Ops.q; rfl; rfl) | (apply Ops.gyB; rfl; rfl) | (apply Ops.gnB; rfl; decide) | (apply Ops.add; rfl; rfl; (constructor <;> omega)) | (apply Ops.sub; rfl; rfl; (constructor <;> omega)) | (apply Ops.rem; rfl; rfl; omega; omega) | (apply Ops.quo; rfl; rfl; (constructor <;> omega); omega) | (apply Ops.ld; rfl; (first | exact m0 | exact m1 | exact m2 | exact m3 | exact m4 | exact m5 | exact m6); rfl) | (apply Ops.st0; rfl; rfl; rfl; rfl; (first | exact u0 | exact u1 | exact u2 | exact u3 | exact u4 | exact u5); focus (simp; done)) | refine Ops.nil ?_ | refine Segs.nil ?_ | (apply Segs.oneS; rfl) | refine Run.seq ?_ | refine Run.reg ?_ | refine Run.block ?_ | refine Run.blk ?_ | refine Run.skip ?_))
    refine Segs.lend [_, _] (.cons s0 (.cons s0 .nil)) fun F1 x1 k1 => ?_
    (repeat (first | (apply Ops.q; rfl; rfl) | (apply Ops.gyB; rfl; rfl) | (apply Ops.gnB; rfl; decide) | (apply Ops.add; rfl; rfl; (constructor <;> omega)) | (apply Ops.sub; rfl; rfl; (constructor <;> omega)) | (apply Ops.rem; rfl; rfl; omega; omega) | (apply Ops.quo; rfl; rfl; (constructor <;> omega); omega) | (apply Ops.ld; rfl; (first | exact m0 | exact m1 | exact m2 | exact m3 | exact m4 | exact m5 | exact m6); rfl) | (apply Ops.st0; rfl; rfl; rfl; rfl; (first | exact u0 | exact u1 | exact u2 | exact u3 | exact u4 | exact u5); focus (simp; done)) | refine Ops.nil ?_ | refine Segs.nil ?_ | (apply Segs.oneS; rfl) | refine Run.seq ?_ | refine Run.reg ?_ | refine Run.block ?_ | refine Run.blk ?_ | refine Run.skip ?_))
    refine Ops.ldF rfl (k1 _ _ m0) rfl ?_
    refine Ops.ldF rfl (k1 _ _ m0) rfl ?_
    refine Ops.ldnF rfl (k1 _ _ m1) (by rw [bvs_len, hhl]; exact Nat.le_refl 64) ?_
    rw [List.drop_zero, List.take_of_length_le (show (bvs hs).length ≤ 64 by rw [bvs_len, hhl]; exact Nat.le_refl 64)]
    refine Ops.nil (Segs.oneS rfl ?_)
    simp only [List.cons_append, List.nil_append]
    refine Ops.call1 rfl (.cons s4 .nil) (fun F' _ _ => disk_Write d r1.2 (by omega) _ hs hhl F') ?_
    rintro v G ⟨rfl, rfl⟩
    simp only [List.cons_append, List.nil_append]
    generalize r1.2.write (L'.half : Int) hs = r2 at *
    (repeat (first | (apply Ops.q; rfl; rfl) | (apply Ops.gyB; rfl; rfl) | (apply Ops.gnB; rfl; decide) | (apply Ops.add; rfl; rfl; (constructor <;> omega)) | (apply Ops.sub; rfl; rfl; (constructor <;> omega)) | (apply Ops.rem; rfl; rfl; omega; omega) | (apply Ops.quo; rfl; rfl; (constructor <;> omega); omega) | (apply Ops.ld; rfl; (first | exact m0 | exact m1 | exact m2 | exact m3 | exact m4 | exact m5 | exact m6); rfl) | (apply Ops.st0; rfl; rfl; rfl; rfl; (first | exact u0 | exact u1 | exact u2 | exact u3 | exact u4 | exact u5); focus (simp; done)) | refine Ops.nil ?_ | refine Segs.nil ?_ | (apply Segs.oneS; rfl) | refine Run.seq ?_ | refine Run.reg ?_ | refine Run.block ?_ | refine Run.blk ?_ | refine Run.skip ?_))
    by_cases he2 : r2.1 = 0
    · rw [if_pos he2] at hfin
      refine Run.condF (by simp [he2, get, look]) ?_
      (repeat (first | (apply Ops.q; rfl; rfl) | (apply Ops.gyB; rfl; rfl) | (apply Ops.gnB; rfl; decide) | (apply Ops.add; rfl; rfl; (constructor <;> omega)) | (apply Ops.sub; rfl; rfl; (constructor <;> omega)) | (apply Ops.rem; rfl; rfl; omega; omega) | (apply Ops.quo; rfl; rfl; (constructor <;> omega); omega) | (apply Ops.ld; rfl; (first | exact m0 | exact m1 | exact m2 | exact m3 | exact m4 | exact m5 | exact m6); rfl) | (apply Ops.st0; rfl; rfl; rfl; rfl; (first | exact u0 | exact u1 | exact u2 | exact u3 | exact u4 | exact u5); focus (simp; done)) | refine Ops.nil ?_ | refine Segs.nil ?_ | (apply Segs.oneS; rfl) | refine Run.seq ?_ | refine Run.reg ?_ | refine Run.block ?_ | refine Run.blk ?_ | refine Run.skip ?_))
      refine Ops.call1 rfl (.cons s0 .nil) (fun F' _ _ => disk_Flush d r2.2 F') ?_
      rintro v G ⟨rfl, rfl⟩
      simp only [List.cons_append, List.nil_append]
      rw [← hfin]
      subst hres
      refine Ops.call1 rfl (.cons s1 .nil) (fun F' e kn => log_die l d L' a' bss.length c' fin.1 F') ?_
      rintro v G ⟨rfl, rfl⟩
      simp only [List.cons_append, List.nil_append]
      (repeat (first | (apply Ops.q; rfl; rfl) | (apply Ops.gyB; rfl; rfl) | (apply Ops.gnB; rfl; decide) | (apply Ops.add; rfl; rfl; (constructor <;> omega)) | (apply Ops.sub; rfl; rfl; (constructor <;> omega)) | (apply Ops.rem; rfl; rfl; omega; omega) | (apply Ops.quo; rfl; rfl; (constructor <;> omega); omega) | (apply Ops.ld; rfl; (first | exact m0 | exact m1 | exact m2 | exact m3 | exact m4 | exact m5 | exact m6); rfl) | (apply Ops.st0; rfl; rfl; rfl; rfl; (first | exact u0 | exact u1 | exact u2 | exact u3 | exact u4 | exact u5); focus (simp; done)) | refine Ops.nil ?_ | refine Segs.nil ?_ | (apply Segs.oneS; rfl) | refine Run.seq ?_ | refine Run.reg ?_ | refine Run.block ?_ | refine Run.blk ?_ | refine Run.skip ?_))
      refine Run.ret1 Try.func14 rfl rfl (fun h q => hfold { L' with dead := L'.dead || decide (fin.1 ≠ 0) } a' c' ws fin.2 hh' (by rw [hwl, hll]) h ?_) ⟨rfl, rfl⟩
      rw [hwl]
      exact take_sub (.cons s1 (.cons s0 (.cons s1 (.cons s1 .nil)))) h q
    · rw [if_neg he2] at hfin
      subst hfin
      subst hres
      refine Run.condT (by simp [he2, get, look]) ?_
      (repeat (first | (apply Ops.q; rfl; rfl) | (apply Ops.gyB; rfl; rfl) | (apply Ops.gnB; rfl; decide) | (apply Ops.add; rfl; rfl; (constructor <;> omega)) | (apply Ops.sub; rfl; rfl; (constructor <;> omega)) | (apply Ops.rem; rfl; rfl; omega; omega) | (apply Ops.quo; rfl; rfl; (constructor <;> omega); omega) | (apply Ops.ld; rfl; (first | exact m0 | exact m1 | exact m2 | exact m3 | exact m4 | exact m5 | exact m6); rfl) | (apply Ops.st0; rfl; rfl; rfl; rfl; (first | exact u0 | exact u1 | exact u2 | exact u3 | exact u4 | exact u5); focus (simp; done)) | refine Ops.nil ?_ | refine Segs.nil ?_ | (apply Segs.oneS; rfl) | refine Run.seq ?_ | refine Run.reg ?_ | refine Run.block ?_ | refine Run.blk ?_ | refine Run.skip ?_))
      refine Ops.call1 rfl (.cons s1 .nil) (fun F' e kn => log_die l d L' a' bss.length c' fin.1 F') ?_
      rintro v G ⟨rfl, rfl⟩
      simp only [List.cons_append, List.nil_append]
      (repeat (first | (apply Ops.q; rfl; rfl) | (apply Ops.gyB; rfl; rfl) | (apply Ops.gnB; rfl; decide) | (apply Ops.add; rfl; rfl; (constructor <;> omega)) | (apply Ops.sub; rfl; rfl; (constructor <;> omega)) | (apply Ops.rem; rfl; rfl; omega; omega) | (apply Ops.quo; rfl; rfl; (constructor <;> omega); omega) | (apply Ops.ld; rfl; (first | exact m0 | exact m1 | exact m2 | exact m3 | exact m4 | exact m5 | exact m6); rfl) | (apply Ops.st0; rfl; rfl; rfl; rfl; (first | exact u0 | exact u1 | exact u2 | exact u3 | exact u4 | exact u5); focus (simp; done)) | refine Ops.nil ?_ | refine Segs.nil ?_ | (apply Segs.oneS; rfl) | refine Run.seq ?_ | refine Run.reg ?_ | refine Run.block ?_ | refine Run.blk ?_ | refine Run.skip ?_))
      refine Run.ret1 Try.func14 rfl rfl (fun h q => hfold { L' with dead := L'.dead || decide (fin.1 ≠ 0) } a' c' ws fin.2 hh' (by rw [hwl, hll]) h ?_) ⟨rfl, rfl⟩
      rw [hwl]
      exact take_sub (.cons s1 (.cons s0 (.cons s1 (.cons s1 .nil)))) h q
end Eng
end Go.Proofs.Ytbhlolmglieehaa
