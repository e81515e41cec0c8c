/- The document's example. -/
import Derived.Test.YtbhlolmglieehaaLaw1
import Derived.Test.YtbhlolmglieehaaPlain8
set_option linter.unusedSimpArgs false
set_option linter.unusedVariables false
namespace Go.Proofs.Ytbhlolmglieehaa

theorem three_ne (D : DiskS) : ((3 : Int), D).1 ≠ 0 := by show (3 : Int) ≠ 0; decide

theorem put_down : ∀ (ss : List Bytes) (D : DiskS) (a : Nat), D.down = true → 1 ≤ ss.length → D.put a ss = (3, D) := by
  intro ss D a hd hn
  cases ss with
  | nil => simp at hn
  | cons s r =>
    simp only [DiskS.put]
    have : D.write a s = (3, D) := by unfold DiskS.write; rw [if_pos hd]
    rw [this, if_neg (three_ne D)]

theorem keep_down (L : LogS) (D : DiskS) (ss : List Bytes) (hd : D.down = true) (hn : 1 ≤ ss.length) : L.keep D ss = (3, D) := by
  have t1 : (ss.take 1).length = 1 := by simp; omega
  unfold LogS.keep
  by_cases h : 1 < ss.length
  · rw [if_pos h, put_down _ D _ hd (by rw [List.length_tail]; omega), andThen_bad (three_ne D), andThen_bad (three_ne D)]
  · rw [if_neg h, andThen_ok rfl, put_down _ D _ hd (by omega), andThen_bad (three_ne D)]

theorem append_down {L : LogS} {D : DiskS} {b : Bytes} (hdead : L.dead = false) (hd : D.down = true) (hb : b.length ≤ 4096) (hroom : L.pos + sectorsOf b.length ≤ D.hf) :
    L.append D b = (3, { L with dead := true }, D) := by
  have hcl := cutOf_len L.list.length L.epoch b
  have hs1 : 1 ≤ sectorsOf b.length := by unfold sectorsOf; omega
  unfold LogS.append
  rw [if_neg (by simp [hdead]), if_neg (by omega), if_neg (by omega), keep_down L D _ hd (by omega), if_neg (three_ne D)]

theorem append_dead {L : LogS} {D : DiskS} {b : Bytes} (hdead : L.dead = true) : L.append D b = (3, L, D) := by
  unfold LogS.append; rw [if_pos hdead]

theorem LogS.Ok.resize {L : LogS} {D D' : DiskS} (h : L.Ok D) (hok : D'.Ok) (e : D'.kept.length = D.kept.length) : L.Ok D' :=
  ⟨h.half, by rw [hf_eq e]; exact h.pos, h.epoch, h.top, h.list, hok, by rw [e]; exact h.size⟩

def bOne : Bytes := [111, 110, 101]
def bTwo : Bytes := [116, 119, 111]
def bSome : Bytes := [115, 111, 109, 101]

namespace Eng
section
variable {P : Program} {F : Hp} {l : Fr} {H : List HA} {C : Fr → List HA → Prop} {es : List EG} {i d : Nat} {c : Bool}

theorem Ops.cvLit {x : Operand} {b n m : Nat} {L : List Value} {T : TypeId} {H' : List HA} (hx : get l x = some (.slice (some ⟨b, 0, none⟩) n m))
    (u : Upd H (.pt b (.cells L.toArray T (0, 0))) (.pt b (.cells L.toArray T (L.length, L.length + 1))) H')
    (k : Ops P F es ((d, .slice (some ⟨b, 0, none⟩) n m) :: l) H' C) : Ops P F (EG.mk i (some d) none false (.cvLit x) :: es) l H C :=
  Ops.busy (R := fun v' M => v' = .slice (some ⟨b, 0, none⟩) n m ∧ M = H') (fun w h ρ a q f =>
    ⟨b, n, m, L, T, (0, 0), a _ _ hx, f.own _ _ (seps_mem_pt u.mem q), rfl, by rw [a _ _ hx]; exact ⟨H', _, ⟨rfl, rfl⟩, seps_upd u q, f.set (seps_mem_pt u.mem q), Keeps.setBlk w b _⟩⟩)
    fun v' M ⟨e1, e2⟩ => by subst e1; subst e2; exact k

/-- whether a pointer is nil -/
theorem Ops.nilp {dd : TypeDesc} {x y : Operand} {a : Addr} (hd : ∃ T, dd = .pointer T) (hx : get l x = some (.pointer (some a))) (hy : get l y = some (.pointer none)) (k : Ops P F es ((d, .bool false) :: l) H C) :
    Ops P F (EG.mk i (some d) none c (.eqv dd false x y) :: es) l H C := by
  obtain ⟨T, rfl⟩ := hd
  refine Ops.p ?_ k
  simp only [pv, hx, hy]
  rfl
end

attribute [local irreducible] Ops Segs Run Spec

set_option maxHeartbeats 1000000 in
theorem law_alive (F : Hp) : Spec Try.prog 7 [].toArray F [] fun v H => v = .bool true ∧ H = [] := by
  obtain ⟨L1, D1, ho1, hl1, ht1, hf1, hn1⟩ := new_open (n := 20) (by decide)
  have hok0 := new_ok (n := 20) (by decide)
  refine Spec.enter (n := 81) Try.func7 ok_law04_alive rfl (by simp) ?_
  unfold ec_law04_alive
  simp only [argFr, Nat.reduceAdd]
  (repeat (first | (apply Ops.q; rfl; rfl) | (apply Ops.gyB; rfl; rfl) | (apply Ops.gnB; rfl; decide) | (apply Ops.add; rfl; rfl; (constructor <;> omega)) | (apply Ops.sub; rfl; rfl; (constructor <;> omega)) | (apply Ops.rem; rfl; rfl; omega; omega) | (apply Ops.quo; rfl; rfl; (constructor <;> omega); omega) | (apply Ops.ld; rfl; (first | exact m0 | exact m1 | exact m2 | exact m3 | exact m4 | exact m5 | exact m6); rfl) | (apply Ops.st0; rfl; rfl; rfl; rfl; (first | exact u0 | exact u1 | exact u2 | exact u3 | exact u4 | exact u5); focus (simp; done)) | refine Ops.nil ?_ | refine Segs.nil ?_ | (apply Segs.oneS; rfl) | refine Run.seq ?_ | refine Run.reg ?_ | refine Run.block ?_ | refine Run.blk ?_ | refine Run.skip ?_))
  refine Ops.call1 rfl .nil (fun F' _ _ => disk_New 20 (by decide) F') ?_
  rintro v G ⟨d, rfl, rfl⟩
  simp only [List.cons_append, List.nil_append]
  (repeat (first | (apply Ops.q; rfl; rfl) | (apply Ops.gyB; rfl; rfl) | (apply Ops.gnB; rfl; decide) | (apply Ops.add; rfl; rfl; (constructor <;> omega)) | (apply Ops.sub; rfl; rfl; (constructor <;> omega)) | (apply Ops.rem; rfl; rfl; omega; omega) | (apply Ops.quo; rfl; rfl; (constructor <;> omega); omega) | (apply Ops.ld; rfl; (first | exact m0 | exact m1 | exact m2 | exact m3 | exact m4 | exact m5 | exact m6); rfl) | (apply Ops.st0; rfl; rfl; rfl; rfl; (first | exact u0 | exact u1 | exact u2 | exact u3 | exact u4 | exact u5); focus (simp; done)) | refine Ops.nil ?_ | refine Segs.nil ?_ | (apply Segs.oneS; rfl) | refine Run.seq ?_ | refine Run.reg ?_ | refine Run.block ?_ | refine Run.blk ?_ | refine Run.skip ?_))
  refine Ops.call1 rfl (.cons s0 .nil) (fun F' _ _ => log_Open d (DiskS.new 20) hok0.1 rfl (by decide) F') ?_
  intro v G hv
  rw [show DiskS.new 20 = DiskS.new ((20 : Nat) : Int) from rfl, ho1] at hv
  obtain ⟨l, rfl, rfl⟩ := hv
  simp only [List.cons_append, List.nil_append]
  (repeat (first | (apply Ops.q; rfl; rfl) | (apply Ops.gyB; rfl; rfl) | (apply Ops.gnB; rfl; decide) | (apply Ops.add; rfl; rfl; (constructor <;> omega)) | (apply Ops.sub; rfl; rfl; (constructor <;> omega)) | (apply Ops.rem; rfl; rfl; omega; omega) | (apply Ops.quo; rfl; rfl; (constructor <;> omega); omega) | (apply Ops.ld; rfl; (first | exact m0 | exact m1 | exact m2 | exact m3 | exact m4 | exact m5 | exact m6); rfl) | (apply Ops.st0; rfl; rfl; rfl; rfl; (first | exact u0 | exact u1 | exact u2 | exact u3 | exact u4 | exact u5); focus (simp; done)) | refine Ops.nil ?_ | refine Segs.nil ?_ | (apply Segs.oneS; rfl) | refine Run.seq ?_ | refine Run.reg ?_ | refine Run.block ?_ | refine Run.blk ?_ | refine Run.skip ?_))
  refine Run.condF rfl ?_
  (repeat (first | (apply Ops.q; rfl; rfl) | (apply Ops.gyB; rfl; rfl) | (apply Ops.gnB; rfl; decide) | (apply Ops.add; rfl; rfl; (constructor <;> omega)) | (apply Ops.sub; rfl; rfl; (constructor <;> omega)) | (apply Ops.rem; rfl; rfl; omega; omega) | (apply Ops.quo; rfl; rfl; (constructor <;> omega); omega) | (apply Ops.ld; rfl; (first | exact m0 | exact m1 | exact m2 | exact m3 | exact m4 | exact m5 | exact m6); rfl) | (apply Ops.st0; rfl; rfl; rfl; rfl; (first | exact u0 | exact u1 | exact u2 | exact u3 | exact u4 | exact u5); focus (simp; done)) | refine Ops.nil ?_ | refine Segs.nil ?_ | (apply Segs.oneS; rfl) | refine Run.seq ?_ | refine Run.reg ?_ | refine Run.block ?_ | refine Run.blk ?_ | refine Run.skip ?_))
  refine Ops.lit (bvs bOne) rfl rfl fun b1 => ?_
  refine Ops.cvLit rfl u0 ?_
  have hb1 : bOne.length ≤ 4096 := by decide
  refine Ops.call1 rfl (.cons s1 (.cons s1 .nil)) (fun F' e kn => log_Append l d L1 D1 hl1.ok (by rw [hl1.cache]; decide) _ bOne (by decide) F' (rdB_at (bs := bOne) (kn _ _ m0) 3 (o := 0) (by decide) (.inl rfl))) ?_
  rintro v G ⟨rfl, rfl⟩
  simp only [List.cons_append, List.nil_append]
  have hhf1 : D1.hf = 9 := by unfold DiskS.hf; rw [hn1]
  rcases append_held hl1 hb1 (by rw [hhf1]; decide) with ⟨a1, a2, a3, a4⟩ | ⟨_, a2, _⟩
  case inr => omega
  rw [a1]
  generalize L1.append D1 bOne = r1 at *
  obtain ⟨e1, L2, D2⟩ := r1
  dsimp only at *
  rw [List.nil_append] at a2
  (repeat (first | (apply Ops.q; rfl; rfl) | (apply Ops.gyB; rfl; rfl) | (apply Ops.gnB; rfl; decide) | (apply Ops.add; rfl; rfl; (constructor <;> omega)) | (apply Ops.sub; rfl; rfl; (constructor <;> omega)) | (apply Ops.rem; rfl; rfl; omega; omega) | (apply Ops.quo; rfl; rfl; (constructor <;> omega); omega) | (apply Ops.ld; rfl; (first | exact m0 | exact m1 | exact m2 | exact m3 | exact m4 | exact m5 | exact m6); rfl) | (apply Ops.st0; rfl; rfl; rfl; rfl; (first | exact u0 | exact u1 | exact u2 | exact u3 | exact u4 | exact u5); focus (simp; done)) | refine Ops.nil ?_ | refine Segs.nil ?_ | (apply Segs.oneS; rfl) | refine Run.seq ?_ | refine Run.reg ?_ | refine Run.block ?_ | refine Run.blk ?_ | refine Run.skip ?_))
  refine Ops.call1 rfl (.cons s1 .nil) (fun F' e kn => crash_any d D2 0 (by decide) F') ?_
  rintro v G ⟨rfl, rfl⟩
  simp only [List.cons_append, List.nil_append]
  have hb2 := (a2.bears).crash 0
  have hD3 : (D2.crash 0).down = true ∧ (D2.crash 0).kept.length = 20 ∧ (D2.crash 0).cache = [] := ⟨rfl, by rw [hb2.2]; omega, rfl⟩
  generalize D2.crash 0 = D3 at *
  have hhf3 : D3.hf = 9 := by unfold DiskS.hf; rw [hD3.2.1]
  have ok3 : L2.Ok D3 := a2.ok.resize hb2.1.ok (by omega)
  have hp2 : L2.pos = 1 := by rw [a2.pos]; decide
  (repeat (first | (apply Ops.q; rfl; rfl) | (apply Ops.gyB; rfl; rfl) | (apply Ops.gnB; rfl; decide) | (apply Ops.add; rfl; rfl; (constructor <;> omega)) | (apply Ops.sub; rfl; rfl; (constructor <;> omega)) | (apply Ops.rem; rfl; rfl; omega; omega) | (apply Ops.quo; rfl; rfl; (constructor <;> omega); omega) | (apply Ops.ld; rfl; (first | exact m0 | exact m1 | exact m2 | exact m3 | exact m4 | exact m5 | exact m6); rfl) | (apply Ops.st0; rfl; rfl; rfl; rfl; (first | exact u0 | exact u1 | exact u2 | exact u3 | exact u4 | exact u5); focus (simp; done)) | refine Ops.nil ?_ | refine Segs.nil ?_ | (apply Segs.oneS; rfl) | refine Run.seq ?_ | refine Run.reg ?_ | refine Run.block ?_ | refine Run.blk ?_ | refine Run.skip ?_))
  refine Ops.lit (bvs bTwo) rfl rfl fun b2 => ?_
  refine Ops.cvLit rfl u0 ?_
  refine Ops.call1 rfl (.cons s2 (.cons s1 .nil)) (fun F' e kn => log_Append l d L2 D3 ok3 (by rw [hD3.2.2]; decide) _ bTwo (by decide) F' (rdB_at (bs := bTwo) (kn _ _ m0) 3 (o := 0) (by decide) (.inl rfl))) ?_
  rintro v G ⟨rfl, rfl⟩
  rw [append_down (b := bTwo) a2.dead hD3.1 (by decide) (by rw [hhf3, hp2]; decide)]
  simp only [List.cons_append, List.nil_append]
  (repeat (first | (apply Ops.q; rfl; rfl) | (apply Ops.gyB; rfl; rfl) | (apply Ops.gnB; rfl; decide) | (apply Ops.add; rfl; rfl; (constructor <;> omega)) | (apply Ops.sub; rfl; rfl; (constructor <;> omega)) | (apply Ops.rem; rfl; rfl; omega; omega) | (apply Ops.quo; rfl; rfl; (constructor <;> omega); omega) | (apply Ops.ld; rfl; (first | exact m0 | exact m1 | exact m2 | exact m3 | exact m4 | exact m5 | exact m6); rfl) | (apply Ops.st0; rfl; rfl; rfl; rfl; (first | exact u0 | exact u1 | exact u2 | exact u3 | exact u4 | exact u5); focus (simp; done)) | refine Ops.nil ?_ | refine Segs.nil ?_ | (apply Segs.oneS; rfl) | refine Run.seq ?_ | refine Run.reg ?_ | refine Run.block ?_ | refine Run.blk ?_ | refine Run.skip ?_))
  refine Ops.call1 rfl (.cons s1 .nil) (fun F' e kn => disk_On d D3 F') ?_
  rintro v G ⟨rfl, rfl⟩
  simp only [List.cons_append, List.nil_append]
  have hb4 := hb2.1.on
  have hD4 : ({ D3 with down := false } : DiskS).down = false ∧ ({ D3 with down := false } : DiskS).kept.length = 20 := ⟨rfl, hD3.2.1⟩
  generalize ({ D3 with down := false } : DiskS) = D4 at *
  obtain ⟨L4, ho4, hl4, _⟩ := hb4.open_ hD4.1
  have hhf4 : D4.hf = 9 := by unfold DiskS.hf; rw [hD4.2]
  refine Ops.nil (Segs.nil (Run.again (l' := [(5, .int .i64 3), (4, .int .i64 0), (1, .pointer (some ⟨d, 0, none⟩))]) (H' := [DiskP d D4]) ?_ (.cons rfl (.cons rfl (.cons rfl .nil))) (fun h q => take_sub (.cons s0 .nil) h q)))
  (repeat (first | (apply Ops.q; rfl; rfl) | (apply Ops.gyB; rfl; rfl) | (apply Ops.gnB; rfl; decide) | (apply Ops.add; rfl; rfl; (constructor <;> omega)) | (apply Ops.sub; rfl; rfl; (constructor <;> omega)) | (apply Ops.rem; rfl; rfl; omega; omega) | (apply Ops.quo; rfl; rfl; (constructor <;> omega); omega) | (apply Ops.ld; rfl; (first | exact m0 | exact m1 | exact m2 | exact m3 | exact m4 | exact m5 | exact m6); rfl) | (apply Ops.st0; rfl; rfl; rfl; rfl; (first | exact u0 | exact u1 | exact u2 | exact u3 | exact u4 | exact u5); focus (simp; done)) | refine Ops.nil ?_ | refine Segs.nil ?_ | (apply Segs.oneS; rfl) | refine Run.seq ?_ | refine Run.reg ?_ | refine Run.block ?_ | refine Run.blk ?_ | refine Run.skip ?_))
  refine Ops.call1 rfl (.cons s0 .nil) (fun F' _ _ => log_Open d D4 hb4.ok hD4.1 (by rw [hb4.cache]; decide) F') ?_
  intro v G hv
  rw [ho4] at hv
  obtain ⟨l4, rfl, rfl⟩ := hv
  simp only [List.cons_append, List.nil_append]
  (repeat (first | (apply Ops.q; rfl; rfl) | (apply Ops.gyB; rfl; rfl) | (apply Ops.gnB; rfl; decide) | (apply Ops.add; rfl; rfl; (constructor <;> omega)) | (apply Ops.sub; rfl; rfl; (constructor <;> omega)) | (apply Ops.rem; rfl; rfl; omega; omega) | (apply Ops.quo; rfl; rfl; (constructor <;> omega); omega) | (apply Ops.ld; rfl; (first | exact m0 | exact m1 | exact m2 | exact m3 | exact m4 | exact m5 | exact m6); rfl) | (apply Ops.st0; rfl; rfl; rfl; rfl; (first | exact u0 | exact u1 | exact u2 | exact u3 | exact u4 | exact u5); focus (simp; done)) | refine Ops.nil ?_ | refine Segs.nil ?_ | (apply Segs.oneS; rfl) | refine Run.seq ?_ | refine Run.reg ?_ | refine Run.block ?_ | refine Run.blk ?_ | refine Run.skip ?_))
  refine Run.condF rfl ?_
  (repeat (first | (apply Ops.q; rfl; rfl) | (apply Ops.gyB; rfl; rfl) | (apply Ops.gnB; rfl; decide) | (apply Ops.add; rfl; rfl; (constructor <;> omega)) | (apply Ops.sub; rfl; rfl; (constructor <;> omega)) | (apply Ops.rem; rfl; rfl; omega; omega) | (apply Ops.quo; rfl; rfl; (constructor <;> omega); omega) | (apply Ops.ld; rfl; (first | exact m0 | exact m1 | exact m2 | exact m3 | exact m4 | exact m5 | exact m6); rfl) | (apply Ops.st0; rfl; rfl; rfl; rfl; (first | exact u0 | exact u1 | exact u2 | exact u3 | exact u4 | exact u5); focus (simp; done)) | refine Ops.nil ?_ | refine Segs.nil ?_ | (apply Segs.oneS; rfl) | refine Run.seq ?_ | refine Run.reg ?_ | refine Run.block ?_ | refine Run.blk ?_ | refine Run.skip ?_))
  refine Ops.call1 rfl (.cons s0 .nil) (fun F' _ _ => log_List l4 d L4 (by rw [hl4.list]; decide) (by rw [hl4.list]; decide) F') ?_
  rintro v G ⟨xa, xc, rfl, rfl⟩
  rw [hl4.list]
  simp only [List.cons_append, List.nil_append]
  (repeat (first | (apply Ops.q; rfl; rfl) | (apply Ops.gyB; rfl; rfl) | (apply Ops.gnB; rfl; decide) | (apply Ops.add; rfl; rfl; (constructor <;> omega)) | (apply Ops.sub; rfl; rfl; (constructor <;> omega)) | (apply Ops.rem; rfl; rfl; omega; omega) | (apply Ops.quo; rfl; rfl; (constructor <;> omega); omega)))
  refine Ops.nil (Segs.nil (Run.conseq lst_know (Run.open_ s0 fun G hG => Run.lendD G (take_app G _) fun F1 x1 k1 => ?_)))
  obtain ⟨_, hbb⟩ := hG
  obtain ⟨xa', xc', he, hbb⟩ := hbb F1 k1
  cases he
  rcases hbb with hbb | ⟨ob, o, La, T, fz, rfl, hFb, hl, hrd⟩
  · cases hbb
  obtain ⟨x, hx, hrx⟩ := hrd 0 bOne rfl
  (repeat (first | (apply Ops.q; rfl; rfl) | (apply Ops.gyB; rfl; rfl) | (apply Ops.gnB; rfl; decide) | (apply Ops.add; rfl; rfl; (constructor <;> omega)) | (apply Ops.sub; rfl; rfl; (constructor <;> omega)) | (apply Ops.rem; rfl; rfl; omega; omega) | (apply Ops.quo; rfl; rfl; (constructor <;> omega); omega) | (apply Ops.ld; rfl; (first | exact m0 | exact m1 | exact m2 | exact m3 | exact m4 | exact m5 | exact m6); rfl) | (apply Ops.st0; rfl; rfl; rfl; rfl; (first | exact u0 | exact u1 | exact u2 | exact u3 | exact u4 | exact u5); focus (simp; done)) | refine Ops.nil ?_ | refine Segs.nil ?_ | (apply Segs.oneS; rfl) | refine Run.seq ?_ | refine Run.reg ?_ | refine Run.block ?_ | refine Run.blk ?_ | refine Run.skip ?_))
  refine Ops.ixS rfl rfl ⟨by decide, by decide⟩ ?_
  (repeat (first | (apply Ops.q; rfl; rfl) | (apply Ops.gyB; rfl; rfl) | (apply Ops.gnB; rfl; decide) | (apply Ops.add; rfl; rfl; (constructor <;> omega)) | (apply Ops.sub; rfl; rfl; (constructor <;> omega)) | (apply Ops.rem; rfl; rfl; omega; omega) | (apply Ops.quo; rfl; rfl; (constructor <;> omega); omega) | (apply Ops.ld; rfl; (first | exact m0 | exact m1 | exact m2 | exact m3 | exact m4 | exact m5 | exact m6); rfl) | (apply Ops.st0; rfl; rfl; rfl; rfl; (first | exact u0 | exact u1 | exact u2 | exact u3 | exact u4 | exact u5); focus (simp; done)) | refine Ops.nil ?_ | refine Segs.nil ?_ | (apply Segs.oneS; rfl) | refine Run.seq ?_ | refine Run.reg ?_ | refine Run.block ?_ | refine Run.blk ?_ | refine Run.skip ?_))
  refine Ops.ldF rfl hFb (by simpa using hx) ?_
  (repeat (first | (apply Ops.q; rfl; rfl) | (apply Ops.gyB; rfl; rfl) | (apply Ops.gnB; rfl; decide) | (apply Ops.add; rfl; rfl; (constructor <;> omega)) | (apply Ops.sub; rfl; rfl; (constructor <;> omega)) | (apply Ops.rem; rfl; rfl; omega; omega) | (apply Ops.quo; rfl; rfl; (constructor <;> omega); omega) | (apply Ops.ld; rfl; (first | exact m0 | exact m1 | exact m2 | exact m3 | exact m4 | exact m5 | exact m6); rfl) | (apply Ops.st0; rfl; rfl; rfl; rfl; (first | exact u0 | exact u1 | exact u2 | exact u3 | exact u4 | exact u5); focus (simp; done)) | refine Ops.nil ?_ | refine Segs.nil ?_ | (apply Segs.oneS; rfl) | refine Run.seq ?_ | refine Run.reg ?_ | refine Run.block ?_ | refine Run.blk ?_ | refine Run.skip ?_))
  refine Ops.cvBS rfl hrx ?_
  (repeat (first | (apply Ops.q; rfl; rfl) | (apply Ops.gyB; rfl; rfl) | (apply Ops.gnB; rfl; decide) | (apply Ops.add; rfl; rfl; (constructor <;> omega)) | (apply Ops.sub; rfl; rfl; (constructor <;> omega)) | (apply Ops.rem; rfl; rfl; omega; omega) | (apply Ops.quo; rfl; rfl; (constructor <;> omega); omega) | (apply Ops.ld; rfl; (first | exact m0 | exact m1 | exact m2 | exact m3 | exact m4 | exact m5 | exact m6); rfl) | (apply Ops.st0; rfl; rfl; rfl; rfl; (first | exact u0 | exact u1 | exact u2 | exact u3 | exact u4 | exact u5); focus (simp; done)) | refine Ops.nil ?_ | refine Segs.nil ?_ | (apply Segs.oneS; rfl) | refine Run.seq ?_ | refine Run.reg ?_ | refine Run.block ?_ | refine Run.blk ?_ | refine Run.skip ?_))
  have hs : ((ByteArray.mk (List.toArray bOne)).toList == (ByteArray.mk #[111, 110, 101]).toList) = true := by rw [ByteArray.toList_eq, ByteArray.toList_eq]; rfl
  simp only [hs]
  (repeat (first | (apply Ops.q; rfl; rfl) | (apply Ops.gyB; rfl; rfl) | (apply Ops.gnB; rfl; decide) | (apply Ops.add; rfl; rfl; (constructor <;> omega)) | (apply Ops.sub; rfl; rfl; (constructor <;> omega)) | (apply Ops.rem; rfl; rfl; omega; omega) | (apply Ops.quo; rfl; rfl; (constructor <;> omega); omega) | (apply Ops.ld; rfl; (first | exact m0 | exact m1 | exact m2 | exact m3 | exact m4 | exact m5 | exact m6); rfl) | (apply Ops.st0; rfl; rfl; rfl; rfl; (first | exact u0 | exact u1 | exact u2 | exact u3 | exact u4 | exact u5); focus (simp; done)) | refine Ops.nil ?_ | refine Segs.nil ?_ | (apply Segs.oneS; rfl) | refine Run.seq ?_ | refine Run.reg ?_ | refine Run.block ?_ | refine Run.blk ?_ | refine Run.skip ?_))
  refine Ops.call1 rfl (.cons s0 (.cons s0 .nil)) (fun F' _ _ => log_Left l4 d L4 D4 (by omega) (by rw [hl4.pos]; decide) F') ?_
  rintro v G ⟨rfl, rfl⟩
  rw [hhf4, hl4.pos]
  simp only [List.cons_append, List.nil_append]
  (repeat (first | (apply Ops.q; rfl; rfl) | (apply Ops.gyB; rfl; rfl) | (apply Ops.gnB; rfl; decide) | (apply Ops.add; rfl; rfl; (constructor <;> omega)) | (apply Ops.sub; rfl; rfl; (constructor <;> omega)) | (apply Ops.rem; rfl; rfl; omega; omega) | (apply Ops.quo; rfl; rfl; (constructor <;> omega); omega) | (apply Ops.ld; rfl; (first | exact m0 | exact m1 | exact m2 | exact m3 | exact m4 | exact m5 | exact m6); rfl) | (apply Ops.st0; rfl; rfl; rfl; rfl; (first | exact u0 | exact u1 | exact u2 | exact u3 | exact u4 | exact u5); focus (simp; done)) | refine Ops.nil ?_ | refine Segs.nil ?_ | (apply Segs.oneS; rfl) | refine Run.seq ?_ | refine Run.reg ?_ | refine Run.block ?_ | refine Run.blk ?_ | refine Run.skip ?_))
  refine Ops.call1 rfl .nil (fun F' _ _ => log_Room 47 (by decide) F') ?_
  rintro v G ⟨rfl, rfl⟩
  simp only [List.nil_append]
  (repeat (first | (apply Ops.q; rfl; rfl) | (apply Ops.gyB; rfl; rfl) | (apply Ops.gnB; rfl; decide) | (apply Ops.add; rfl; rfl; (constructor <;> omega)) | (apply Ops.sub; rfl; rfl; (constructor <;> omega)) | (apply Ops.rem; rfl; rfl; omega; omega) | (apply Ops.quo; rfl; rfl; (constructor <;> omega); omega) | (apply Ops.ld; rfl; (first | exact m0 | exact m1 | exact m2 | exact m3 | exact m4 | exact m5 | exact m6); rfl) | (apply Ops.st0; rfl; rfl; rfl; rfl; (first | exact u0 | exact u1 | exact u2 | exact u3 | exact u4 | exact u5); focus (simp; done)) | refine Ops.nil ?_ | refine Segs.nil ?_ | (apply Segs.oneS; rfl) | refine Run.seq ?_ | refine Run.reg ?_ | refine Run.block ?_ | refine Run.blk ?_ | refine Run.skip ?_))
  refine Ops.call1 rfl .nil (fun F' _ _ => log_Room 48 (by decide) F') ?_
  rintro v G ⟨rfl, rfl⟩
  simp only [List.nil_append]
  (repeat (first | (apply Ops.q; rfl; rfl) | (apply Ops.gyB; rfl; rfl) | (apply Ops.gnB; rfl; decide) | (apply Ops.add; rfl; rfl; (constructor <;> omega)) | (apply Ops.sub; rfl; rfl; (constructor <;> omega)) | (apply Ops.rem; rfl; rfl; omega; omega) | (apply Ops.quo; rfl; rfl; (constructor <;> omega); omega) | (apply Ops.ld; rfl; (first | exact m0 | exact m1 | exact m2 | exact m3 | exact m4 | exact m5 | exact m6); rfl) | (apply Ops.st0; rfl; rfl; rfl; rfl; (first | exact u0 | exact u1 | exact u2 | exact u3 | exact u4 | exact u5); focus (simp; done)) | refine Ops.nil ?_ | refine Segs.nil ?_ | (apply Segs.oneS; rfl) | refine Run.seq ?_ | refine Run.reg ?_ | refine Run.block ?_ | refine Run.blk ?_ | refine Run.skip ?_))
  exact Run.ret1 Try.func7 rfl rfl (fun h q => take_sub .nil h q) ⟨rfl, rfl⟩
end Eng
end Go.Proofs.Ytbhlolmglieehaa
