/- The log's list. -/
import Derived.Test.YtbhlolmglieehaaXF
set_option linter.unusedSimpArgs false
set_option linter.unusedVariables false
namespace Go.Proofs.Ytbhlolmglieehaa
namespace Eng

theorem Run.lendE {P : Program} {f : FuncId} {n : Nat} {F : Hp} {K : List EI} {l : Fr} {H : List HA} {R : Value → List HA → Prop} (S S' : List HA) {M : List HA} (t : Take H S M) (es : ∀ h, seps S h → seps S' h)
    (r : ∀ F', Ext F F' → Known S F' → Run P f n F' K l M (fun v H' => R v (H' ++ S'))) : Run P f n F K l H R := by
  intro K' w0 w h a i q fw fa kp
  obtain ⟨x, y, sp, qx, qy⟩ := seps_append.1 (t.sound q)
  have hb : ∀ n, x n = none ∨ F n = none := fun n => (fw.dis n).imp sp.none_left id
  have ext : Ext F (Eng.join F x) := fun n o e => by simp [Eng.join, e]
  have known : Known S (Eng.join F x) := fun n o m => by
    have := seps_mem_pt m qx
    rcases hb n with e | e
    · rw [e] at this; cases this
    · simp [Eng.join, e, this]
  refine (r (Eng.join F x) ext known K' w0 w y a i qy (fw.split sp.symm) fa kp).mono ?_
  rintro e w' ⟨v, H', h', he, r, q', k', kp'⟩
  have ⟨k2, s2⟩ := k'.unsplit hb
  exact ⟨v, _, _, he, r, seps_append.2 ⟨h', x, s2, q', es _ qx⟩, k2, kp'⟩

/-- a log in memory, with all of its blocks -/
def LogI2 (l d : Nat) (L : LogS) (G : List HA) : Prop := ∃ a c vs G1 G2, L.half ≤ 1 ∧ vs.length = L.list.length ∧ OwnI a vs.length c 1 30 vs G1 ∧ RowsI vs L.list G2 ∧
  G = .pt l (.cells (lcells d L a vs.length c).toArray 55 (0, 0)) :: (G1 ++ G2)

theorem log_deep {l d : Nat} {L : LogS} {H : List HA} : ∀ h, seps (LogP l d L :: H) h → seps (grp (LogI2 l d L) :: H) h := by
  rintro h ⟨x, y, sp, ⟨G, ⟨a, c, vs, hh, hv, rfl⟩, q⟩, qr⟩
  obtain ⟨x1, y1, sp1, hp, ⟨x2, y2, sp2, ⟨G1, h1, q1⟩, ⟨x3, y3, sp3, ⟨G2, h2, q2⟩, _⟩⟩⟩ := q
  exact ⟨x, y, sp, ⟨_, ⟨a, c, vs, G1, G2, hh, hv, h1, h2, rfl⟩, ⟨x1, y1, sp1, hp, seps_append.2 ⟨x2, y2, sp2, q1, seps_up q2 sp3.symm⟩⟩⟩, qr⟩

theorem log_shut {l d : Nat} {L : LogS} {G : List HA} (hG : LogI2 l d L G) : ∀ h, seps G h → seps [LogP l d L] h := by
  obtain ⟨a, c, vs, G1, G2, hh, hv, h1, h2, rfl⟩ := hG
  intro h ⟨x1, y1, sp1, hp, q⟩
  obtain ⟨x2, y2, sp2, q1, q2⟩ := seps_append.1 q
  refine ⟨h, noHp, (Split.empty h).symm, ⟨_, ⟨a, c, vs, hh, hv, rfl⟩, ⟨x1, y1, sp1, hp, ⟨x2, y2, sp2, ⟨G1, h1, q1⟩, ⟨y2, noHp, (Split.empty y2).symm, ⟨G2, h2, q2⟩, trivial⟩⟩⟩⟩, trivial⟩

theorem OwnI.rdBB {a : Option Addr} {n c : Nat} {T : TypeId} {vs : List Value} {G : List HA} (h : OwnI a n c 1 T vs G) {F : Hp} (k : Known G F) {bss : List Bytes} (r : RdsB F vs bss) : RdBB F (.slice a n c) bss := by
  obtain ⟨hl, h⟩ := h
  have hn : n = bss.length := by rw [r.len] at hl; omega
  rcases h with ⟨rfl, h, _, _⟩ | ⟨b, sp, rfl, hc, hcap, rfl⟩
  · exact ⟨_, c, by rw [hn], .inl (List.length_eq_zero_iff.1 (by omega))⟩
  · exact rdBB_mk (k _ _ m0) r hn

/-- a list of rows in memory -/
def LstI (v : Value) (bss : List Bytes) (G : List HA) : Prop := ∃ a c vs, v = .slice a bss.length c ∧ vs.length = bss.length ∧ G = [OwnS a bss.length c 1 30 vs, RowsP vs bss]
def LstP (v : Value) (bss : List Bytes) : HA := grp (LstI v bss)

attribute [local irreducible] Ops Segs Run Spec

theorem log_List (l d : Nat) (L : LogS) (hn : L.list.length ≤ 1099511627) (hb : ∀ b ∈ L.list, b.length ≤ 1099511627) (F : Hp) :
    Spec Try.prog 11 [.pointer (some ⟨l, 0, none⟩)].toArray F [LogP l d L] fun v H => ∃ a c, v = .slice a L.list.length c ∧ H = [LstP v L.list, LogP l d L] := by
  refine Spec.enter (n := 22) Try.func11 ok_log_Log_List rfl (by simp) ?_
  unfold ec_log_Log_List
  simp only [argFr, Nat.reduceAdd]
  refine Run.conseq log_deep (Run.open_ s0 fun G hG => Run.lendE G [LogP l d L] (take_app G []) (log_shut hG) fun F1 x1 k1 => ?_)
  obtain ⟨a, c, vs, G1, G2, hh, hvl, h1, h2, rfl⟩ := hG
  have hF := k1 _ _ m0
  have hbb := h1.rdBB k1.tail.left (h2.rds k1.tail.right)
  clear h1 h2 k1
  rw [hvl] at hbb hF
  obtain ⟨oa, oc, he, hbb⟩ := hbb
  cases he
  (repeat (first | (apply Ops.q; rfl; rfl) | (apply Ops.gyB; rfl; rfl) | (apply Ops.gnB; rfl; decide) | (apply Ops.add; rfl; rfl; (constructor <;> omega)) | (apply Ops.sub; rfl; rfl; (constructor <;> omega)) | (apply Ops.rem; rfl; rfl; omega; omega) | (apply Ops.quo; rfl; rfl; (constructor <;> omega); omega) | (apply Ops.ld; rfl; (first | exact m0 | exact m1 | exact m2 | exact m3 | exact m4 | exact m5 | exact m6); rfl) | (apply Ops.st0; rfl; rfl; rfl; rfl; (first | exact u0 | exact u1 | exact u2 | exact u3 | exact u4 | exact u5); focus (simp; done)) | refine Ops.nil ?_ | refine Segs.nil ?_ | (apply Segs.oneS; rfl) | refine Run.seq ?_ | refine Run.reg ?_ | refine Run.block ?_ | refine Run.blk ?_ | refine Run.skip ?_))
  refine Ops.ldF rfl hF rfl ?_
  (repeat (first | (apply Ops.q; rfl; rfl) | (apply Ops.gyB; rfl; rfl) | (apply Ops.gnB; rfl; decide) | (apply Ops.add; rfl; rfl; (constructor <;> omega)) | (apply Ops.sub; rfl; rfl; (constructor <;> omega)) | (apply Ops.rem; rfl; rfl; omega; omega) | (apply Ops.quo; rfl; rfl; (constructor <;> omega); omega) | (apply Ops.ld; rfl; (first | exact m0 | exact m1 | exact m2 | exact m3 | exact m4 | exact m5 | exact m6); rfl) | (apply Ops.st0; rfl; rfl; rfl; rfl; (first | exact u0 | exact u1 | exact u2 | exact u3 | exact u4 | exact u5); focus (simp; done)) | refine Ops.nil ?_ | refine Segs.nil ?_ | (apply Segs.oneS; rfl) | refine Run.seq ?_ | refine Run.reg ?_ | refine Run.block ?_ | refine Run.blk ?_ | refine Run.skip ?_))
  refine Run.loopI (ι := Nat × Option Addr × Nat × List Value) (fun x => L.list.length - x.1) (fun x => x.1 ≤ L.list.length ∧ x.2.2.2.length = x.1)
    (fun x => [(11, .int .i64 x.1), (10, .int .i64 L.list.length), (9, .slice a L.list.length c), (3, .slice x.2.1 x.1 x.2.2.1)])
    (fun x => [OwnS x.2.1 x.1 x.2.2.1 1 30 x.2.2.2, RowsP x.2.2.2 (L.list.take x.1)])
    (0, none, 0, []) ⟨Nat.zero_le _, rfl⟩ (.cons rfl (.cons rfl (.cons rfl (.cons rfl .nil)))) (fun h q => own_new h (fold_grp (I := RowsI [] []) .nil .nil h q)) ?_
  rintro ⟨i, a2, c2, ws⟩ ⟨hi, hwl⟩ ih
  dsimp only at hi hwl ih ⊢
  unfold ec_log_Log_List_L0
  (repeat (first | (apply Ops.q; rfl; rfl) | (apply Ops.gyB; rfl; rfl) | (apply Ops.gnB; rfl; decide) | (apply Ops.add; rfl; rfl; (constructor <;> omega)) | (apply Ops.sub; rfl; rfl; (constructor <;> omega)) | (apply Ops.rem; rfl; rfl; omega; omega) | (apply Ops.quo; rfl; rfl; (constructor <;> omega); omega) | (apply Ops.ld; rfl; (first | exact m0 | exact m1 | exact m2 | exact m3 | exact m4 | exact m5 | exact m6); rfl) | (apply Ops.st0; rfl; rfl; rfl; rfl; (first | exact u0 | exact u1 | exact u2 | exact u3 | exact u4 | exact u5); focus (simp; done)) | refine Ops.nil ?_ | refine Segs.nil ?_ | (apply Segs.oneS; rfl) | refine Run.seq ?_ | refine Run.reg ?_ | refine Run.block ?_ | refine Run.blk ?_ | refine Run.skip ?_))
  refine Run.condD rfl (fun hlt => ?_) (fun hge => ?_)
  · have hlt' : i < L.list.length := by omega
    have hel : L.list[i]? = some L.list[i] := List.getElem?_eq_getElem hlt'
    have hbl := hb _ (List.getElem_mem hlt')
    rcases hbb with hbb | ⟨ob, o, La, T, fz, rfl, hFb, hl, hrd⟩
    · rw [hbb] at hlt'; simp at hlt'
    obtain ⟨x, hx, hrx⟩ := hrd i _ hel
    have hnext : L.list.take (i + 1) = L.list.take i ++ [L.list[i]] := by rw [List.take_succ_eq_append_getElem hlt']
    generalize L.list[i] = b at *
    have ih' := fun a c w => ih (i + 1, a, c, w)
    dsimp only at ih'
    rw [hnext] at ih'
    clear ih hnext
    (repeat (first | (apply Ops.q; rfl; rfl) | (apply Ops.gyB; rfl; rfl) | (apply Ops.gnB; rfl; decide) | (apply Ops.add; rfl; rfl; (constructor <;> omega)) | (apply Ops.sub; rfl; rfl; (constructor <;> omega)) | (apply Ops.rem; rfl; rfl; omega; omega) | (apply Ops.quo; rfl; rfl; (constructor <;> omega); omega) | (apply Ops.ld; rfl; (first | exact m0 | exact m1 | exact m2 | exact m3 | exact m4 | exact m5 | exact m6); rfl) | (apply Ops.st0; rfl; rfl; rfl; rfl; (first | exact u0 | exact u1 | exact u2 | exact u3 | exact u4 | exact u5); focus (simp; done)) | refine Ops.nil ?_ | refine Segs.nil ?_ | (apply Segs.oneS; rfl) | refine Run.seq ?_ | refine Run.reg ?_ | refine Run.block ?_ | refine Run.blk ?_ | refine Run.skip ?_))
    refine Ops.ixS rfl rfl ⟨by omega, by omega⟩ ?_
    refine Ops.ldF rfl hFb (by rw [Int.toNat_natCast, Nat.mul_one]; exact hx) ?_
    (repeat (first | (apply Ops.q; rfl; rfl) | (apply Ops.gyB; rfl; rfl) | (apply Ops.gnB; rfl; decide) | (apply Ops.add; rfl; rfl; (constructor <;> omega)) | (apply Ops.sub; rfl; rfl; (constructor <;> omega)) | (apply Ops.rem; rfl; rfl; omega; omega) | (apply Ops.quo; rfl; rfl; (constructor <;> omega); omega) | (apply Ops.ld; rfl; (first | exact m0 | exact m1 | exact m2 | exact m3 | exact m4 | exact m5 | exact m6); rfl) | (apply Ops.st0; rfl; rfl; rfl; rfl; (first | exact u0 | exact u1 | exact u2 | exact u3 | exact u4 | exact u5); focus (simp; done)) | refine Ops.nil ?_ | refine Segs.nil ?_ | (apply Segs.oneS; rfl) | refine Run.seq ?_ | refine Run.reg ?_ | refine Run.block ?_ | refine Run.blk ?_ | refine Run.skip ?_))
    refine Ops.appN (ys := bvs b) rfl rfl hrx.len (fun w h q f => hrx.shows w h q f) (bvs_one b) (by rw [bvs_len]; exact (Nat.mul_one _).symm) (by decide) (app_fit hbl (by decide)) fun a3 c3 => ?_
    refine Ops.lit [.slice a3 b.length c3] rfl rfl fun b1 => ?_
    refine Ops.app (m := 1) (ys := [.slice a3 b.length c3]) rfl rfl rfl s2 (shows_pt m0 (Nat.le_refl 1) rfl) (fun v hv => by rw [List.mem_singleton] at hv; subst hv; rfl) rfl (by decide) (app_fit (by omega) (by decide)) fun a4 c4 => ?_
    (repeat (first | (apply Ops.q; rfl; rfl) | (apply Ops.gyB; rfl; rfl) | (apply Ops.gnB; rfl; decide) | (apply Ops.add; rfl; rfl; (constructor <;> omega)) | (apply Ops.sub; rfl; rfl; (constructor <;> omega)) | (apply Ops.rem; rfl; rfl; omega; omega) | (apply Ops.quo; rfl; rfl; (constructor <;> omega); omega) | (apply Ops.ld; rfl; (first | exact m0 | exact m1 | exact m2 | exact m3 | exact m4 | exact m5 | exact m6); rfl) | (apply Ops.st0; rfl; rfl; rfl; rfl; (first | exact u0 | exact u1 | exact u2 | exact u3 | exact u4 | exact u5); focus (simp; done)) | refine Ops.nil ?_ | refine Segs.nil ?_ | (apply Segs.oneS; rfl) | refine Run.seq ?_ | refine Run.reg ?_ | refine Run.block ?_ | refine Run.blk ?_ | refine Run.skip ?_))
    refine Run.lp (Run.again (ih' a4 c4 (ws ++ [.slice a3 b.length c3]) (by omega) ⟨by omega, by simp [hwl]⟩) (.cons rfl (.cons rfl (.cons rfl (.cons rfl .nil)))) ?_)
    exact fun h q => take_sub (.cons s1 (.cons s0 .nil)) h (rows_snoc h (take_sub (.cons s3 (.cons s2 (.cons s0 .nil))) h q))
  · have : i = L.list.length := by omega
    subst this
    rw [List.take_length]
    refine Run.exit rfl ?_
    (repeat (first | (apply Ops.q; rfl; rfl) | (apply Ops.gyB; rfl; rfl) | (apply Ops.gnB; rfl; decide) | (apply Ops.add; rfl; rfl; (constructor <;> omega)) | (apply Ops.sub; rfl; rfl; (constructor <;> omega)) | (apply Ops.rem; rfl; rfl; omega; omega) | (apply Ops.quo; rfl; rfl; (constructor <;> omega); omega) | (apply Ops.ld; rfl; (first | exact m0 | exact m1 | exact m2 | exact m3 | exact m4 | exact m5 | exact m6); rfl) | (apply Ops.st0; rfl; rfl; rfl; rfl; (first | exact u0 | exact u1 | exact u2 | exact u3 | exact u4 | exact u5); focus (simp; done)) | refine Ops.nil ?_ | refine Segs.nil ?_ | (apply Segs.oneS; rfl) | refine Run.seq ?_ | refine Run.reg ?_ | refine Run.block ?_ | refine Run.blk ?_ | refine Run.skip ?_))
    exact Run.ret1 Try.func11 rfl rfl (fun h q => fold_grp (R := []) (.cons s0 (.cons s0 .nil)) ⟨a2, c2, ws, rfl, hwl, rfl⟩ h q) ⟨a2, c2, rfl, rfl⟩
end Eng
end Go.Proofs.Ytbhlolmglieehaa

/- The log: the greatest epoch that was begun. -/
set_option linter.unusedSimpArgs false
set_option linter.unusedVariables false
namespace Go.Proofs.Ytbhlolmglieehaa

def lookStep (s : Bytes) (t : Nat) : Nat := if s[0]? = some 2 then max t ((⟨(s.drop 9).take 4, false⟩ : Rd).num 2147483648).1.toNat else t
def lookN (D : DiskS) : Nat → Nat → Nat → Nat
  | 0, _, t => t
  | n + 1, a, t => lookN D n (a + 1) (lookStep (D.at_ a) t)

theorem lookStep_le (s : Bytes) {t m : Nat} (h : t ≤ m) (hm : 2147483648 ≤ m) : lookStep s t ≤ m := by
  unfold lookStep
  split
  · have := Rd.num_range (most := 2147483648) (by omega) ⟨(s.drop 9).take 4, false⟩
    omega
  · exact h
theorem lookN_le (D : DiskS) {m : Nat} (hm : 2147483648 ≤ m) : ∀ (n a t : Nat), t ≤ m → lookN D n a t ≤ m
  | 0, _, _, h => h
  | n + 1, a, t, h => lookN_le D hm n (a + 1) _ (lookStep_le _ h hm)

theorem first_byte {s : Bytes} (hs : s.length = 64) : ∃ u r, s = u :: r := by
  cases s with
  | nil => simp at hs
  | cons a r => exact ⟨a, r, rfl⟩
theorem byte_eq (u : UInt8) (k : Nat) (hk : k < 256) : decide ((u.toNat : Int) = (k : Int)) = decide (u = UInt8.ofNat k) := by
  refine decide_eq_decide.2 ⟨fun e => ?_, fun e => ?_⟩
  · apply UInt8.toNat_inj.1
    rw [UInt8.toNat_ofNat', Nat.mod_eq_of_lt (by omega)]; omega
  · rw [e, UInt8.toNat_ofNat', Nat.mod_eq_of_lt (by omega)]

namespace Eng
attribute [local irreducible] Ops Segs Run Spec

theorem log_look (l d : Nat) (L : LogS) (a : Option Addr) (n c : Nat) (D : DiskS) (hok : D.Ok) (hd : D.down = false) (F : Hp) :
    Spec Try.prog 23 [.pointer (some ⟨l, 0, none⟩)].toArray F [.pt l (.cells (lcells d L a n c).toArray 55 (0, 0)), DiskP d D] fun v H =>
      v = .int .i64 0 ∧ H = [.pt l (.cells (lcells d { L with top := lookN D (D.kept.length - 2) 2 L.epoch } a n c).toArray 55 (0, 0)), DiskP d D] := by
  have hsz := hok.size
  refine Spec.enter (n := 50) Try.func23 ok_log_Log_look rfl (by simp) ?_
  unfold ec_log_Log_look
  simp only [argFr, Nat.reduceAdd]
  (repeat (first | (apply Ops.q; rfl; rfl) | (apply Ops.gyB; rfl; rfl) | (apply Ops.gnB; rfl; decide) | (apply Ops.add; rfl; rfl; (constructor <;> omega)) | (apply Ops.sub; rfl; rfl; (constructor <;> omega)) | (apply Ops.rem; rfl; rfl; omega; omega) | (apply Ops.quo; rfl; rfl; (constructor <;> omega); omega) | (apply Ops.ld; rfl; (first | exact m0 | exact m1 | exact m2 | exact m3 | exact m4 | exact m5 | exact m6); rfl) | (apply Ops.st0; rfl; rfl; rfl; rfl; (first | exact u0 | exact u1 | exact u2 | exact u3 | exact u4 | exact u5); focus (simp; done)) | refine Ops.nil ?_ | refine Segs.nil ?_ | (apply Segs.oneS; rfl) | refine Run.seq ?_ | refine Run.reg ?_ | refine Run.block ?_ | refine Run.blk ?_ | refine Run.skip ?_))
  refine Run.loopI (ι := Nat × Nat) (fun x => D.kept.length - x.1) (fun x => 2 ≤ x.1 ∧ lookN D (D.kept.length - 2) 2 L.epoch = lookN D (D.kept.length - x.1) x.1 x.2)
    (fun x => [(3, .int .i64 x.1), (0, .pointer (some ⟨l, 0, none⟩))]) (fun x => [.pt l (.cells (lcells d { L with top := x.2 } a n c).toArray 55 (0, 0)), DiskP d D])
    (2, L.epoch) ⟨Nat.le_refl _, rfl⟩ (.cons rfl (.cons rfl .nil)) (fun _ h => h) ?_
  rintro ⟨i, t⟩ ⟨hi, hlk⟩ ih
  dsimp only at hi hlk ih ⊢
  unfold ec_log_Log_look_L0
  (repeat (first | (apply Ops.q; rfl; rfl) | (apply Ops.gyB; rfl; rfl) | (apply Ops.gnB; rfl; decide) | (apply Ops.add; rfl; rfl; (constructor <;> omega)) | (apply Ops.sub; rfl; rfl; (constructor <;> omega)) | (apply Ops.rem; rfl; rfl; omega; omega) | (apply Ops.quo; rfl; rfl; (constructor <;> omega); omega) | (apply Ops.ld; rfl; (first | exact m0 | exact m1 | exact m2 | exact m3 | exact m4 | exact m5 | exact m6); rfl) | (apply Ops.st0; rfl; rfl; rfl; rfl; (first | exact u0 | exact u1 | exact u2 | exact u3 | exact u4 | exact u5); focus (simp; done)) | refine Ops.nil ?_ | refine Segs.nil ?_ | (apply Segs.oneS; rfl) | refine Run.seq ?_ | refine Run.reg ?_ | refine Run.block ?_ | refine Run.blk ?_ | refine Run.skip ?_))
  refine Ops.call1 rfl (.cons s1 .nil) (fun F' _ _ => disk_Len d D F') ?_
  rintro v G ⟨rfl, rfl⟩
  simp only [List.cons_append, List.nil_append]
  (repeat (first | (apply Ops.q; rfl; rfl) | (apply Ops.gyB; rfl; rfl) | (apply Ops.gnB; rfl; decide) | (apply Ops.add; rfl; rfl; (constructor <;> omega)) | (apply Ops.sub; rfl; rfl; (constructor <;> omega)) | (apply Ops.rem; rfl; rfl; omega; omega) | (apply Ops.quo; rfl; rfl; (constructor <;> omega); omega) | (apply Ops.ld; rfl; (first | exact m0 | exact m1 | exact m2 | exact m3 | exact m4 | exact m5 | exact m6); rfl) | (apply Ops.st0; rfl; rfl; rfl; rfl; (first | exact u0 | exact u1 | exact u2 | exact u3 | exact u4 | exact u5); focus (simp; done)) | refine Ops.nil ?_ | refine Segs.nil ?_ | (apply Segs.oneS; rfl) | refine Run.seq ?_ | refine Run.reg ?_ | refine Run.block ?_ | refine Run.blk ?_ | refine Run.skip ?_))
  refine Run.condD rfl (fun hlt => ?_) (fun hge => ?_)
  · have hlt' : i < D.kept.length := by omega
    have hlen := at_len hok hd hlt'
    rw [show D.kept.length - i = (D.kept.length - (i + 1)) + 1 by omega] at hlk
    simp only [lookN] at hlk
    have ih' := fun t => ih (i + 1, t)
    dsimp only at ih'
    clear ih
    (repeat (first | (apply Ops.q; rfl; rfl) | (apply Ops.gyB; rfl; rfl) | (apply Ops.gnB; rfl; decide) | (apply Ops.add; rfl; rfl; (constructor <;> omega)) | (apply Ops.sub; rfl; rfl; (constructor <;> omega)) | (apply Ops.rem; rfl; rfl; omega; omega) | (apply Ops.quo; rfl; rfl; (constructor <;> omega); omega) | (apply Ops.ld; rfl; (first | exact m0 | exact m1 | exact m2 | exact m3 | exact m4 | exact m5 | exact m6); rfl) | (apply Ops.st0; rfl; rfl; rfl; rfl; (first | exact u0 | exact u1 | exact u2 | exact u3 | exact u4 | exact u5); focus (simp; done)) | refine Ops.nil ?_ | refine Segs.nil ?_ | (apply Segs.oneS; rfl) | refine Run.seq ?_ | refine Run.reg ?_ | refine Run.block ?_ | refine Run.blk ?_ | refine Run.skip ?_))
    refine Ops.call1 rfl (.cons s0 .nil) (fun F' _ _ => disk_Read d D _ F') ?_
    rintro v G ⟨rfl, rfl⟩
    rw [DiskS.read_at hd hlt']
    simp only [List.cons_append, List.nil_append]
    generalize D.at_ i = s at *
    (repeat (first | (apply Ops.q; rfl; rfl) | (apply Ops.gyB; rfl; rfl) | (apply Ops.gnB; rfl; decide) | (apply Ops.add; rfl; rfl; (constructor <;> omega)) | (apply Ops.sub; rfl; rfl; (constructor <;> omega)) | (apply Ops.rem; rfl; rfl; omega; omega) | (apply Ops.quo; rfl; rfl; (constructor <;> omega); omega) | (apply Ops.ld; rfl; (first | exact m0 | exact m1 | exact m2 | exact m3 | exact m4 | exact m5 | exact m6); rfl) | (apply Ops.st0; rfl; rfl; rfl; rfl; (first | exact u0 | exact u1 | exact u2 | exact u3 | exact u4 | exact u5); focus (simp; done)) | refine Ops.nil ?_ | refine Segs.nil ?_ | (apply Segs.oneS; rfl) | refine Run.seq ?_ | refine Run.reg ?_ | refine Run.block ?_ | refine Run.blk ?_ | refine Run.skip ?_))
    refine Ops.alloc fun b4 => ?_
    refine Ops.stS hlen rfl rfl u0 ?_
    (repeat (first | (apply Ops.q; rfl; rfl) | (apply Ops.gyB; rfl; rfl) | (apply Ops.gnB; rfl; decide) | (apply Ops.add; rfl; rfl; (constructor <;> omega)) | (apply Ops.sub; rfl; rfl; (constructor <;> omega)) | (apply Ops.rem; rfl; rfl; omega; omega) | (apply Ops.quo; rfl; rfl; (constructor <;> omega); omega) | (apply Ops.ld; rfl; (first | exact m0 | exact m1 | exact m2 | exact m3 | exact m4 | exact m5 | exact m6); rfl) | (apply Ops.st0; rfl; rfl; rfl; rfl; (first | exact u0 | exact u1 | exact u2 | exact u3 | exact u4 | exact u5); focus (simp; done)) | refine Ops.nil ?_ | refine Segs.nil ?_ | (apply Segs.oneS; rfl) | refine Run.seq ?_ | refine Run.reg ?_ | refine Run.block ?_ | refine Run.blk ?_ | refine Run.skip ?_))
    refine Run.condF rfl ?_
    obtain ⟨u, r, rfl⟩ := first_byte hlen
    (repeat (first | (apply Ops.q; rfl; rfl) | (apply Ops.gyB; rfl; rfl) | (apply Ops.gnB; rfl; decide) | (apply Ops.add; rfl; rfl; (constructor <;> omega)) | (apply Ops.sub; rfl; rfl; (constructor <;> omega)) | (apply Ops.rem; rfl; rfl; omega; omega) | (apply Ops.quo; rfl; rfl; (constructor <;> omega); omega) | (apply Ops.ld; rfl; (first | exact m0 | exact m1 | exact m2 | exact m3 | exact m4 | exact m5 | exact m6); rfl) | (apply Ops.st0; rfl; rfl; rfl; rfl; (first | exact u0 | exact u1 | exact u2 | exact u3 | exact u4 | exact u5); focus (simp; done)) | refine Ops.nil ?_ | refine Segs.nil ?_ | (apply Segs.oneS; rfl) | refine Run.seq ?_ | refine Run.reg ?_ | refine Run.block ?_ | refine Run.blk ?_ | refine Run.skip ?_))
    refine Ops.ixA rfl rfl ⟨by omega, by omega⟩ ?_
    refine Ops.ld (v := bv u) rfl m0 rfl ?_
    unfold bv
    (repeat (first | (apply Ops.q; rfl; rfl) | (apply Ops.gyB; rfl; rfl) | (apply Ops.gnB; rfl; decide) | (apply Ops.add; rfl; rfl; (constructor <;> omega)) | (apply Ops.sub; rfl; rfl; (constructor <;> omega)) | (apply Ops.rem; rfl; rfl; omega; omega) | (apply Ops.quo; rfl; rfl; (constructor <;> omega); omega) | (apply Ops.ld; rfl; (first | exact m0 | exact m1 | exact m2 | exact m3 | exact m4 | exact m5 | exact m6); rfl) | (apply Ops.st0; rfl; rfl; rfl; rfl; (first | exact u0 | exact u1 | exact u2 | exact u3 | exact u4 | exact u5); focus (simp; done)) | refine Ops.nil ?_ | refine Segs.nil ?_ | (apply Segs.oneS; rfl) | refine Run.seq ?_ | refine Run.reg ?_ | refine Run.block ?_ | refine Run.blk ?_ | refine Run.skip ?_))
    have hu := byte_eq u 2 (by omega)
    refine Run.condD rfl (fun h2 => ?_) (fun h2 => ?_)
    · have hu2 : u = 2 := by apply UInt8.toNat_inj.1; rw [show (2 : UInt8).toNat = 2 from rfl]; omega
      have hst : lookStep (u :: r) t = max t ((⟨((u :: r).drop 9).take 4, false⟩ : Rd).num 2147483648).1.toNat := by unfold lookStep; rw [if_pos (by rw [hu2]; rfl)]
      rw [hst] at hlk
      (repeat (first | (apply Ops.q; rfl; rfl) | (apply Ops.gyB; rfl; rfl) | (apply Ops.gnB; rfl; decide) | (apply Ops.add; rfl; rfl; (constructor <;> omega)) | (apply Ops.sub; rfl; rfl; (constructor <;> omega)) | (apply Ops.rem; rfl; rfl; omega; omega) | (apply Ops.quo; rfl; rfl; (constructor <;> omega); omega) | (apply Ops.ld; rfl; (first | exact m0 | exact m1 | exact m2 | exact m3 | exact m4 | exact m5 | exact m6); rfl) | (apply Ops.st0; rfl; rfl; rfl; rfl; (first | exact u0 | exact u1 | exact u2 | exact u3 | exact u4 | exact u5); focus (simp; done)) | refine Ops.nil ?_ | refine Segs.nil ?_ | (apply Segs.oneS; rfl) | refine Run.seq ?_ | refine Run.reg ?_ | refine Run.block ?_ | refine Run.blk ?_ | refine Run.skip ?_))
      refine Ops.slA (l1 := 9) (h1 := 13) rfl rfl rfl (by omega) (by omega) fun a1 ha1 => ?_
      refine Ops.call1 rfl .nil (fun F' e kn => rec_Read _ _ F' (rdB_at (kn _ _ m0) 4 (o := 9) (by omega) (a := a1) (c := 55) (ha1.imp id (by omega))) (by simp; omega)) ?_
      rintro v G ⟨rb, rfl, rfl⟩
      simp only [List.cons_append, List.nil_append]
      have hnr := Rd.num_range (most := 2147483648) (by omega) ⟨((u :: r).drop 9).take 4, false⟩
      (repeat (first | (apply Ops.q; rfl; rfl) | (apply Ops.gyB; rfl; rfl) | (apply Ops.gnB; rfl; decide) | (apply Ops.add; rfl; rfl; (constructor <;> omega)) | (apply Ops.sub; rfl; rfl; (constructor <;> omega)) | (apply Ops.rem; rfl; rfl; omega; omega) | (apply Ops.quo; rfl; rfl; (constructor <;> omega); omega) | (apply Ops.ld; rfl; (first | exact m0 | exact m1 | exact m2 | exact m3 | exact m4 | exact m5 | exact m6); rfl) | (apply Ops.st0; rfl; rfl; rfl; rfl; (first | exact u0 | exact u1 | exact u2 | exact u3 | exact u4 | exact u5); focus (simp; done)) | refine Ops.nil ?_ | refine Segs.nil ?_ | (apply Segs.oneS; rfl) | refine Run.seq ?_ | refine Run.reg ?_ | refine Run.block ?_ | refine Run.blk ?_ | refine Run.skip ?_))
      refine Segs.lend [_] (.cons s3 .nil) fun F1 x1 k1 => ?_
      (repeat (first | (apply Ops.q; rfl; rfl) | (apply Ops.gyB; rfl; rfl) | (apply Ops.gnB; rfl; decide) | (apply Ops.add; rfl; rfl; (constructor <;> omega)) | (apply Ops.sub; rfl; rfl; (constructor <;> omega)) | (apply Ops.rem; rfl; rfl; omega; omega) | (apply Ops.quo; rfl; rfl; (constructor <;> omega); omega) | (apply Ops.ld; rfl; (first | exact m0 | exact m1 | exact m2 | exact m3 | exact m4 | exact m5 | exact m6); rfl) | (apply Ops.st0; rfl; rfl; rfl; rfl; (first | exact u0 | exact u1 | exact u2 | exact u3 | exact u4 | exact u5); focus (simp; done)) | refine Ops.nil ?_ | refine Segs.nil ?_ | (apply Segs.oneS; rfl) | refine Run.seq ?_ | refine Run.reg ?_ | refine Run.block ?_ | refine Run.blk ?_ | refine Run.skip ?_))
      refine Ops.ldF rfl (k1 _ _ m0) rfl ?_
      refine Ops.call1 rfl (.cons s0 .nil) (fun F' e _ => rec_Reader_Num rb _ 2147483648 (by simp; omega) F') ?_
      rintro v G ⟨rfl, rfl⟩
      simp only [List.cons_append, List.nil_append]
      generalize ((⟨((u :: r).drop 9).take 4, false⟩ : Rd).num 2147483648) = rr at *
      refine Ops.nil (Segs.oneS rfl ?_)
      refine Ops.pE (v' := .int .i64 ((max t rr.1.toNat : Nat) : Int)) rfl (by congr 1; split <;> omega) ?_
      (repeat (first | (apply Ops.q; rfl; rfl) | (apply Ops.gyB; rfl; rfl) | (apply Ops.gnB; rfl; decide) | (apply Ops.add; rfl; rfl; (constructor <;> omega)) | (apply Ops.sub; rfl; rfl; (constructor <;> omega)) | (apply Ops.rem; rfl; rfl; omega; omega) | (apply Ops.quo; rfl; rfl; (constructor <;> omega); omega) | (apply Ops.ld; rfl; (first | exact m0 | exact m1 | exact m2 | exact m3 | exact m4 | exact m5 | exact m6); rfl) | (apply Ops.st0; rfl; rfl; rfl; rfl; (first | exact u0 | exact u1 | exact u2 | exact u3 | exact u4 | exact u5); focus (simp; done)) | refine Ops.nil ?_ | refine Segs.nil ?_ | (apply Segs.oneS; rfl) | refine Run.seq ?_ | refine Run.reg ?_ | refine Run.block ?_ | refine Run.blk ?_ | refine Run.skip ?_))
      exact Run.lp (Run.again (ih' _ (by omega) ⟨by omega, hlk⟩) (.cons rfl (.cons rfl .nil)) (fun h q => take_sub (.cons s0 (.cons s2 .nil)) h q))
    · have hst : lookStep (u :: r) t = t := by unfold lookStep; rw [if_neg (by simp only [List.getElem?_cons_zero, Option.some.injEq]; intro e; subst e; exact h2 rfl)]
      rw [hst] at hlk
      (repeat (first | (apply Ops.q; rfl; rfl) | (apply Ops.gyB; rfl; rfl) | (apply Ops.gnB; rfl; decide) | (apply Ops.add; rfl; rfl; (constructor <;> omega)) | (apply Ops.sub; rfl; rfl; (constructor <;> omega)) | (apply Ops.rem; rfl; rfl; omega; omega) | (apply Ops.quo; rfl; rfl; (constructor <;> omega); omega) | (apply Ops.ld; rfl; (first | exact m0 | exact m1 | exact m2 | exact m3 | exact m4 | exact m5 | exact m6); rfl) | (apply Ops.st0; rfl; rfl; rfl; rfl; (first | exact u0 | exact u1 | exact u2 | exact u3 | exact u4 | exact u5); focus (simp; done)) | refine Ops.nil ?_ | refine Segs.nil ?_ | (apply Segs.oneS; rfl) | refine Run.seq ?_ | refine Run.reg ?_ | refine Run.block ?_ | refine Run.blk ?_ | refine Run.skip ?_))
      exact Run.lp (Run.again (ih' t (by omega) ⟨by omega, hlk⟩) (.cons rfl (.cons rfl .nil)) (fun h q => take_sub (.cons s2 (.cons s1 .nil)) h q))
  · have : D.kept.length - i = 0 := by omega
    rw [this] at hlk
    simp only [lookN] at hlk
    rw [hlk]
    refine Run.exit rfl ?_
    (repeat (first | (apply Ops.q; rfl; rfl) | (apply Ops.gyB; rfl; rfl) | (apply Ops.gnB; rfl; decide) | (apply Ops.add; rfl; rfl; (constructor <;> omega)) | (apply Ops.sub; rfl; rfl; (constructor <;> omega)) | (apply Ops.rem; rfl; rfl; omega; omega) | (apply Ops.quo; rfl; rfl; (constructor <;> omega); omega) | (apply Ops.ld; rfl; (first | exact m0 | exact m1 | exact m2 | exact m3 | exact m4 | exact m5 | exact m6); rfl) | (apply Ops.st0; rfl; rfl; rfl; rfl; (first | exact u0 | exact u1 | exact u2 | exact u3 | exact u4 | exact u5); focus (simp; done)) | refine Ops.nil ?_ | refine Segs.nil ?_ | (apply Segs.oneS; rfl) | refine Run.seq ?_ | refine Run.reg ?_ | refine Run.block ?_ | refine Run.blk ?_ | refine Run.skip ?_))
    exact Run.ret1 Try.func23 rfl rfl (fun h q => take_sub (.cons s1 (.cons s0 .nil)) h q) ⟨rfl, rfl⟩
end Eng
end Go.Proofs.Ytbhlolmglieehaa

/- The log: the next record. -/
set_option linter.unusedSimpArgs false
set_option linter.unusedVariables false
namespace Go.Proofs.Ytbhlolmglieehaa

/-- the bytes of a record's other sectors -/
def gather (D : DiskS) (base : Nat) : Nat → Nat → Bytes → Option Bytes
  | 0, _, b => some b
  | n + 1, i, b => if (D.at_ (base + i))[0]? = some 3 then gather D base n (i + 1) (b ++ (D.at_ (base + i)).drop 1) else none

def headOf (s : Bytes) : Rd := ⟨(s.drop 1).take 16, false⟩

def LogS.next (L : LogS) (D : DiskS) : Option (Bytes × Nat) :=
  if D.hf ≤ L.pos then none else
    let s := D.at_ (L.base D L.pos)
    let x1 := (headOf s).num 4096
    let x2 := x1.2.num 2147483648
    let x3 := x2.2.num 2147483648
    let x4 := x3.2.num 4294967295
    if s[0]? = some 2 then if x4.2.bad = true then none else if x2.1 = L.list.length then if x3.1 = L.epoch then
      if D.hf < L.pos + sectorsOf x1.1.toNat then none else
        match gather D (L.base D L.pos) (sectorsOf x1.1.toNat - 1) 1 (s.drop 17) with
        | none => none
        | some b => if (crcOf ((le4 x2.1.toNat ++ le4 x3.1.toNat) ++ b.take x1.1.toNat) : Int) = x4.1 then some (b.take x1.1.toNat, sectorsOf x1.1.toNat) else none
    else none else none else none

namespace Eng
theorem Run.lendC {P : Program} {f : FuncId} {n : Nat} {F : Hp} {K : List EI} {l : Fr} {H : List HA} {R : Value → List HA → Prop} (S S' : List HA) {M : List HA} (t : Take H S M) (es : ∀ h, seps S h → seps S' h)
    (r : ∀ F', Ext F F' → Known S F' → Run P f n F' K l M (fun v H' => R v H' ∨ R v (H' ++ S'))) : Run P f n F K l H R := by
  intro K' w0 w h a i q fw fa kp
  obtain ⟨x, y, sp, qx, qy⟩ := seps_append.1 (t.sound q)
  have hb : ∀ n, x n = none ∨ F n = none := fun n => (fw.dis n).imp sp.none_left id
  have ext : Ext F (Eng.join F x) := fun n o e => by simp [Eng.join, e]
  have known : Known S (Eng.join F x) := fun n o m => by
    have := seps_mem_pt m qx
    rcases hb n with e | e
    · rw [e] at this; cases this
    · simp [Eng.join, e, this]
  refine (r (Eng.join F x) ext known K' w0 w y a i qy (fw.split sp.symm) fa kp).mono ?_
  rintro e w' ⟨v, H', h', he, r, q', k', kp'⟩
  have ⟨k2, s2⟩ := k'.unsplit hb
  rcases r with r | r
  · exact ⟨v, _, _, he, r, seps_up q' s2.symm, k2, kp'⟩
  · exact ⟨v, _, _, he, r, seps_append.2 ⟨h', x, s2, q', es _ qx⟩, k2, kp'⟩

def RowP (v : Value) (b : Bytes) : HA := grp (RowI v b)

def NextR (d : Nat) (D : DiskS) (o : Option (Bytes × Nat)) (v : Value) (H : List HA) : Prop := match o with
  | none => v = .tuple [.slice none 0 0, .int .i64 0, .int .i64 0].toArray ∧ H = [DiskP d D]
  | some (b, k) => ∃ xa xc, v = .tuple [.slice xa b.length xc, .int .i64 k, .int .i64 0].toArray ∧ H = [DiskP d D, RowP (.slice xa b.length xc) b]

theorem seps_right {A B : List HA} : ∀ h, seps (A ++ B) h → seps B h := by
  intro h q
  obtain ⟨x, y, sp, _, q2⟩ := seps_append.1 q
  exact seps_up q2 sp

theorem RdB.take {F : Hp} {b o n c c' k : Nat} {a' : Option Addr} {bs : Bytes} (h : RdB F (.slice (some ⟨b, o, none⟩) n c) bs) (hk : k ≤ bs.length) (ha : a' = some ⟨b, o, none⟩ ∨ k = 0) : RdB F (.slice a' k c') (bs.take k) := by
  obtain ⟨a, c0, he, h⟩ := h
  cases he
  have hlk : (bs.take k).length = k := by rw [List.length_take]; omega
  refine ⟨a', c', by rw [hlk], ?_⟩
  by_cases h0 : k = 0
  · subst h0; exact .inl (by simp)
  rcases h with h | ⟨b', o', L, T, fz, he, hF, hl, ht⟩
  · subst h; exact .inl (by simp)
  · cases he
    rcases ha with ha | ha
    · refine .inr ⟨b, o, L, T, fz, ha, hF, by rw [hlk]; omega, ?_⟩
      have := congrArg (List.take k) ht
      rw [List.take_take, Nat.min_eq_left hk] at this
      rw [hlk, this]; simp [bvs, List.map_take]
    · exact absurd ha h0

attribute [local irreducible] Ops Segs Run Spec

set_option maxHeartbeats 800000 in
theorem log_next (l d : Nat) (L : LogS) (a : Option Addr) (c : Nat) (D : DiskS) (ok : L.Ok D) (hd : D.down = false) (F : Hp)
    (hF : F l = some (.cells (lcells d L a L.list.length c).toArray 55 (0, 0))) :
    Spec Try.prog 24 [.pointer (some ⟨l, 0, none⟩)].toArray F [DiskP d D] (NextR d D (L.next D)) := by
  have hok := ok.disk
  have hsz := hok.size
  have h6 := ok.size
  have hhf := hf_le hok
  have hhfd : D.hf * 2 + 2 ≤ D.kept.length := by unfold DiskS.hf; omega
  have hnone : ∀ {K : List EI} {l0 : Fr} {F0 : Hp} {H : List HA}, L.next D = none → look l0 2 = some (.slice none 0 0) → look l0 3 = some (.int .i64 0) → look l0 4 = some (.int .i64 0) → (∀ h, seps H h → seps [DiskP d D] h) →
      Run Try.prog 24 134 F0 (.code .ret :: K) l0 H (NextR d D (L.next D)) := by
    intro K l0 F0 H hn h2 h3 h4 hH
    exact Run.ret Try.func24 (rs := [.tmp 2, .tmp 3, .tmp 4]) rfl (.tmp h2 (.tmp h3 (.tmp h4 .nil))) hH (by rw [hn]; exact ⟨rfl, rfl⟩)
  refine Spec.enter (n := 134) Try.func24 ok_log_Log_next rfl (by simp) ?_
  unfold ec_log_Log_next
  simp only [argFr, Nat.reduceAdd]
  (repeat (first | (apply Ops.q; rfl; rfl) | (apply Ops.gyB; rfl; rfl) | (apply Ops.gnB; rfl; decide) | (apply Ops.add; rfl; rfl; (constructor <;> omega)) | (apply Ops.sub; rfl; rfl; (constructor <;> omega)) | (apply Ops.rem; rfl; rfl; omega; omega) | (apply Ops.quo; rfl; rfl; (constructor <;> omega); omega) | (apply Ops.ld; rfl; (first | exact m0 | exact m1 | exact m2 | exact m3 | exact m4 | exact m5 | exact m6); rfl) | (apply Ops.st0; rfl; rfl; rfl; rfl; (first | exact u0 | exact u1 | exact u2 | exact u3 | exact u4 | exact u5); focus (simp; done)) | refine Ops.nil ?_ | refine Segs.nil ?_ | (apply Segs.oneS; rfl) | refine Run.seq ?_ | refine Run.reg ?_ | refine Run.block ?_ | refine Run.blk ?_ | refine Run.skip ?_))
  refine Segs.lend [] .nil fun F1 x1 k1 => ?_
  (repeat (first | (apply Ops.q; rfl; rfl) | (apply Ops.gyB; rfl; rfl) | (apply Ops.gnB; rfl; decide) | (apply Ops.add; rfl; rfl; (constructor <;> omega)) | (apply Ops.sub; rfl; rfl; (constructor <;> omega)) | (apply Ops.rem; rfl; rfl; omega; omega) | (apply Ops.quo; rfl; rfl; (constructor <;> omega); omega) | (apply Ops.ld; rfl; (first | exact m0 | exact m1 | exact m2 | exact m3 | exact m4 | exact m5 | exact m6); rfl) | (apply Ops.st0; rfl; rfl; rfl; rfl; (first | exact u0 | exact u1 | exact u2 | exact u3 | exact u4 | exact u5); focus (simp; done)) | refine Ops.nil ?_ | refine Segs.nil ?_ | (apply Segs.oneS; rfl) | refine Run.seq ?_ | refine Run.reg ?_ | refine Run.block ?_ | refine Run.blk ?_ | refine Run.skip ?_))
  refine Ops.ldF rfl (x1 _ _ hF) rfl ?_
  refine Ops.ldF rfl (x1 _ _ hF) rfl ?_
  refine Ops.call1 rfl (.cons s0 .nil) (fun F' _ _ => log_half d D (by omega) F') ?_
  rintro v G ⟨rfl, rfl⟩
  simp only [List.cons_append, List.nil_append]
  refine Ops.nil (Segs.oneS rfl ?_)
  (repeat (first | (apply Ops.q; rfl; rfl) | (apply Ops.gyB; rfl; rfl) | (apply Ops.gnB; rfl; decide) | (apply Ops.add; rfl; rfl; (constructor <;> omega)) | (apply Ops.sub; rfl; rfl; (constructor <;> omega)) | (apply Ops.rem; rfl; rfl; omega; omega) | (apply Ops.quo; rfl; rfl; (constructor <;> omega); omega)))
  refine Ops.nil (Segs.nil ?_)
  refine Run.condD rfl (fun h0 => ?_) (fun h0 => ?_)
  · have hn : L.next D = none := by unfold LogS.next; rw [if_pos (by omega)]
    (repeat (first | (apply Ops.q; rfl; rfl) | (apply Ops.gyB; rfl; rfl) | (apply Ops.gnB; rfl; decide) | (apply Ops.add; rfl; rfl; (constructor <;> omega)) | (apply Ops.sub; rfl; rfl; (constructor <;> omega)) | (apply Ops.rem; rfl; rfl; omega; omega) | (apply Ops.quo; rfl; rfl; (constructor <;> omega); omega) | (apply Ops.ld; rfl; (first | exact m0 | exact m1 | exact m2 | exact m3 | exact m4 | exact m5 | exact m6); rfl) | (apply Ops.st0; rfl; rfl; rfl; rfl; (first | exact u0 | exact u1 | exact u2 | exact u3 | exact u4 | exact u5); focus (simp; done)) | refine Ops.nil ?_ | refine Segs.nil ?_ | (apply Segs.oneS; rfl) | refine Run.seq ?_ | refine Run.reg ?_ | refine Run.block ?_ | refine Run.blk ?_ | refine Run.skip ?_))
    exact hnone hn rfl rfl rfl (fun h q => q)
  have hpos : L.pos < D.hf := by omega
  have hm : L.half * D.hf ≤ D.hf := by have := Nat.mul_le_mul_right D.hf ok.half; omega
  have hb : ∀ k, k < D.hf → L.base D k < D.kept.length := by intro k hk; unfold LogS.base; omega
  have hlen := at_len hok hd (hb _ hpos)
  have hnx : L.next D = (let s := D.at_ (L.base D L.pos)
    let x1 := (headOf s).num 4096
    let x2 := x1.2.num 2147483648
    let x3 := x2.2.num 2147483648
    let x4 := x3.2.num 4294967295
    if s[0]? = some 2 then if x4.2.bad = true then none else if x2.1 = L.list.length then if x3.1 = L.epoch then
      if D.hf < L.pos + sectorsOf x1.1.toNat then none else
        match gather D (L.base D L.pos) (sectorsOf x1.1.toNat - 1) 1 (s.drop 17) with
        | none => none
        | some b => if (crcOf ((le4 x2.1.toNat ++ le4 x3.1.toNat) ++ b.take x1.1.toNat) : Int) = x4.1 then some (b.take x1.1.toNat, sectorsOf x1.1.toNat) else none
    else none else none else none) := by unfold LogS.next; rw [if_neg (by omega)]
  (repeat (first | (apply Ops.q; rfl; rfl) | (apply Ops.gyB; rfl; rfl) | (apply Ops.gnB; rfl; decide) | (apply Ops.add; rfl; rfl; (constructor <;> omega)) | (apply Ops.sub; rfl; rfl; (constructor <;> omega)) | (apply Ops.rem; rfl; rfl; omega; omega) | (apply Ops.quo; rfl; rfl; (constructor <;> omega); omega) | (apply Ops.ld; rfl; (first | exact m0 | exact m1 | exact m2 | exact m3 | exact m4 | exact m5 | exact m6); rfl) | (apply Ops.st0; rfl; rfl; rfl; rfl; (first | exact u0 | exact u1 | exact u2 | exact u3 | exact u4 | exact u5); focus (simp; done)) | refine Ops.nil ?_ | refine Segs.nil ?_ | (apply Segs.oneS; rfl) | refine Run.seq ?_ | refine Run.reg ?_ | refine Run.block ?_ | refine Run.blk ?_ | refine Run.skip ?_))
  refine Ops.ldF rfl hF rfl ?_
  refine Ops.call1 rfl (.cons s0 .nil) (fun F' e _ => log_read l d L a L.list.length c D hd (by omega) L.pos ok.half hpos hok F' (e _ _ hF)) ?_
  rintro v G ⟨rfl, rfl⟩
  simp only [List.cons_append, List.nil_append]
  generalize hse : D.at_ (L.base D L.pos) = s at *
  (repeat (first | (apply Ops.q; rfl; rfl) | (apply Ops.gyB; rfl; rfl) | (apply Ops.gnB; rfl; decide) | (apply Ops.add; rfl; rfl; (constructor <;> omega)) | (apply Ops.sub; rfl; rfl; (constructor <;> omega)) | (apply Ops.rem; rfl; rfl; omega; omega) | (apply Ops.quo; rfl; rfl; (constructor <;> omega); omega) | (apply Ops.ld; rfl; (first | exact m0 | exact m1 | exact m2 | exact m3 | exact m4 | exact m5 | exact m6); rfl) | (apply Ops.st0; rfl; rfl; rfl; rfl; (first | exact u0 | exact u1 | exact u2 | exact u3 | exact u4 | exact u5); focus (simp; done)) | refine Ops.nil ?_ | refine Segs.nil ?_ | (apply Segs.oneS; rfl) | refine Run.seq ?_ | refine Run.reg ?_ | refine Run.block ?_ | refine Run.blk ?_ | refine Run.skip ?_))
  refine Ops.alloc fun b5 => ?_
  refine Ops.stS hlen rfl rfl u0 ?_
  (repeat (first | (apply Ops.q; rfl; rfl) | (apply Ops.gyB; rfl; rfl) | (apply Ops.gnB; rfl; decide) | (apply Ops.add; rfl; rfl; (constructor <;> omega)) | (apply Ops.sub; rfl; rfl; (constructor <;> omega)) | (apply Ops.rem; rfl; rfl; omega; omega) | (apply Ops.quo; rfl; rfl; (constructor <;> omega); omega) | (apply Ops.ld; rfl; (first | exact m0 | exact m1 | exact m2 | exact m3 | exact m4 | exact m5 | exact m6); rfl) | (apply Ops.st0; rfl; rfl; rfl; rfl; (first | exact u0 | exact u1 | exact u2 | exact u3 | exact u4 | exact u5); focus (simp; done)) | refine Ops.nil ?_ | refine Segs.nil ?_ | (apply Segs.oneS; rfl) | refine Run.seq ?_ | refine Run.reg ?_ | refine Run.block ?_ | refine Run.blk ?_ | refine Run.skip ?_))
  refine Run.condF rfl ?_
  refine Run.skip ?_
  refine Run.lendD [_] (.cons s0 .nil) fun F2 x2 k2 => ?_
  have hFs := k2 _ _ m0
  have hF2 := x2 _ _ hF
  (repeat (first | (apply Ops.q; rfl; rfl) | (apply Ops.gyB; rfl; rfl) | (apply Ops.gnB; rfl; decide) | (apply Ops.add; rfl; rfl; (constructor <;> omega)) | (apply Ops.sub; rfl; rfl; (constructor <;> omega)) | (apply Ops.rem; rfl; rfl; omega; omega) | (apply Ops.quo; rfl; rfl; (constructor <;> omega); omega) | (apply Ops.ld; rfl; (first | exact m0 | exact m1 | exact m2 | exact m3 | exact m4 | exact m5 | exact m6); rfl) | (apply Ops.st0; rfl; rfl; rfl; rfl; (first | exact u0 | exact u1 | exact u2 | exact u3 | exact u4 | exact u5); focus (simp; done)) | refine Ops.nil ?_ | refine Segs.nil ?_ | (apply Segs.oneS; rfl) | refine Run.seq ?_ | refine Run.reg ?_ | refine Run.block ?_ | refine Run.blk ?_ | refine Run.skip ?_))
  refine Ops.slA (l1 := 1) (h1 := 17) rfl rfl rfl (by omega) (by omega) fun a1 ha1 => ?_
  refine Ops.call1 rfl .nil (fun F' e kn => rec_Read _ (headOf s).b F' ((rdB_at hFs 16 (o := 1) (by omega) (a := a1) (c := 63) (ha1.imp id (by omega))).ext e) (by simp [headOf]; omega)) ?_
  rintro v G ⟨r, rfl, rfl⟩
  simp only [List.cons_append, List.nil_append]
  have hh0 : (headOf s).b.length ≤ 16 := by simp [headOf]; omega
  (repeat (first | (apply Ops.q; rfl; rfl) | (apply Ops.gyB; rfl; rfl) | (apply Ops.gnB; rfl; decide) | (apply Ops.add; rfl; rfl; (constructor <;> omega)) | (apply Ops.sub; rfl; rfl; (constructor <;> omega)) | (apply Ops.rem; rfl; rfl; omega; omega) | (apply Ops.quo; rfl; rfl; (constructor <;> omega); omega) | (apply Ops.ld; rfl; (first | exact m0 | exact m1 | exact m2 | exact m3 | exact m4 | exact m5 | exact m6); rfl) | (apply Ops.st0; rfl; rfl; rfl; rfl; (first | exact u0 | exact u1 | exact u2 | exact u3 | exact u4 | exact u5); focus (simp; done)) | refine Ops.nil ?_ | refine Segs.nil ?_ | (apply Segs.oneS; rfl) | refine Run.seq ?_ | refine Run.reg ?_ | refine Run.block ?_ | refine Run.blk ?_ | refine Run.skip ?_))
  have hl1 := Rd.num_len (most := 4096) (headOf s)
  have hg1 := Rd.num_range (most := 4096) (by omega) (headOf s)
  refine Ops.call1 rfl (.cons s0 .nil) (fun F' e _ => rec_Reader_Num r (headOf s) 4096 (by omega) F') ?_
  rintro v G ⟨rfl, rfl⟩
  simp only [List.cons_append, List.nil_append]
  dsimp only at hnx
  generalize (headOf s).num 4096 = y1 at *
  have hl2 := Rd.num_len (most := 2147483648) y1.2
  have hg2 := Rd.num_range (most := 2147483648) (by omega) y1.2
  (repeat (first | (apply Ops.q; rfl; rfl) | (apply Ops.gyB; rfl; rfl) | (apply Ops.gnB; rfl; decide) | (apply Ops.add; rfl; rfl; (constructor <;> omega)) | (apply Ops.sub; rfl; rfl; (constructor <;> omega)) | (apply Ops.rem; rfl; rfl; omega; omega) | (apply Ops.quo; rfl; rfl; (constructor <;> omega); omega) | (apply Ops.ld; rfl; (first | exact m0 | exact m1 | exact m2 | exact m3 | exact m4 | exact m5 | exact m6); rfl) | (apply Ops.st0; rfl; rfl; rfl; rfl; (first | exact u0 | exact u1 | exact u2 | exact u3 | exact u4 | exact u5); focus (simp; done)) | refine Ops.nil ?_ | refine Segs.nil ?_ | (apply Segs.oneS; rfl) | refine Run.seq ?_ | refine Run.reg ?_ | refine Run.block ?_ | refine Run.blk ?_ | refine Run.skip ?_))
  refine Ops.call1 rfl (.cons s0 .nil) (fun F' e _ => rec_Reader_Num r y1.2 2147483648 (by omega) F') ?_
  rintro v G ⟨rfl, rfl⟩
  simp only [List.cons_append, List.nil_append]
  generalize y1.2.num 2147483648 = y2 at *
  have hl3 := Rd.num_len (most := 2147483648) y2.2
  have hg3 := Rd.num_range (most := 2147483648) (by omega) y2.2
  (repeat (first | (apply Ops.q; rfl; rfl) | (apply Ops.gyB; rfl; rfl) | (apply Ops.gnB; rfl; decide) | (apply Ops.add; rfl; rfl; (constructor <;> omega)) | (apply Ops.sub; rfl; rfl; (constructor <;> omega)) | (apply Ops.rem; rfl; rfl; omega; omega) | (apply Ops.quo; rfl; rfl; (constructor <;> omega); omega) | (apply Ops.ld; rfl; (first | exact m0 | exact m1 | exact m2 | exact m3 | exact m4 | exact m5 | exact m6); rfl) | (apply Ops.st0; rfl; rfl; rfl; rfl; (first | exact u0 | exact u1 | exact u2 | exact u3 | exact u4 | exact u5); focus (simp; done)) | refine Ops.nil ?_ | refine Segs.nil ?_ | (apply Segs.oneS; rfl) | refine Run.seq ?_ | refine Run.reg ?_ | refine Run.block ?_ | refine Run.blk ?_ | refine Run.skip ?_))
  refine Ops.call1 rfl (.cons s0 .nil) (fun F' e _ => rec_Reader_Num r y2.2 2147483648 (by omega) F') ?_
  rintro v G ⟨rfl, rfl⟩
  simp only [List.cons_append, List.nil_append]
  generalize y2.2.num 2147483648 = y3 at *
  have hg4 := Rd.num_range (most := 4294967295) (by omega) y3.2
  (repeat (first | (apply Ops.q; rfl; rfl) | (apply Ops.gyB; rfl; rfl) | (apply Ops.gnB; rfl; decide) | (apply Ops.add; rfl; rfl; (constructor <;> omega)) | (apply Ops.sub; rfl; rfl; (constructor <;> omega)) | (apply Ops.rem; rfl; rfl; omega; omega) | (apply Ops.quo; rfl; rfl; (constructor <;> omega); omega) | (apply Ops.ld; rfl; (first | exact m0 | exact m1 | exact m2 | exact m3 | exact m4 | exact m5 | exact m6); rfl) | (apply Ops.st0; rfl; rfl; rfl; rfl; (first | exact u0 | exact u1 | exact u2 | exact u3 | exact u4 | exact u5); focus (simp; done)) | refine Ops.nil ?_ | refine Segs.nil ?_ | (apply Segs.oneS; rfl) | refine Run.seq ?_ | refine Run.reg ?_ | refine Run.block ?_ | refine Run.blk ?_ | refine Run.skip ?_))
  refine Ops.call1 rfl (.cons s0 .nil) (fun F' e _ => rec_Reader_Num r y3.2 4294967295 (by omega) F') ?_
  rintro v G ⟨rfl, rfl⟩
  simp only [List.cons_append, List.nil_append]
  generalize y3.2.num 4294967295 = y4 at *
  obtain ⟨n1, R1⟩ := y1
  obtain ⟨n2, R2⟩ := y2
  obtain ⟨n3, R3⟩ := y3
  obtain ⟨n4, R4⟩ := y4
  dsimp only at *
  obtain ⟨n1, rfl⟩ := Int.eq_ofNat_of_zero_le hg1.1
  obtain ⟨n2, rfl⟩ := Int.eq_ofNat_of_zero_le hg2.1
  obtain ⟨n3, rfl⟩ := Int.eq_ofNat_of_zero_le hg3.1
  obtain ⟨n4, rfl⟩ := Int.eq_ofNat_of_zero_le hg4.1
  simp only [Int.toNat_natCast] at hnx
  clear hl1 hl2 hl3 R1 R2 R3
  (repeat (first | (apply Ops.q; rfl; rfl) | (apply Ops.gyB; rfl; rfl) | (apply Ops.gnB; rfl; decide) | (apply Ops.add; rfl; rfl; (constructor <;> omega)) | (apply Ops.sub; rfl; rfl; (constructor <;> omega)) | (apply Ops.rem; rfl; rfl; omega; omega) | (apply Ops.quo; rfl; rfl; (constructor <;> omega); omega) | (apply Ops.ld; rfl; (first | exact m0 | exact m1 | exact m2 | exact m3 | exact m4 | exact m5 | exact m6); rfl) | (apply Ops.st0; rfl; rfl; rfl; rfl; (first | exact u0 | exact u1 | exact u2 | exact u3 | exact u4 | exact u5); focus (simp; done)) | refine Ops.nil ?_ | refine Segs.nil ?_ | (apply Segs.oneS; rfl) | refine Run.seq ?_ | refine Run.reg ?_ | refine Run.block ?_ | refine Run.blk ?_ | refine Run.skip ?_))
  refine Ops.call1 rfl .nil (fun F' _ _ => log_sectors n1 (by omega) F') ?_
  rintro v G ⟨rfl, rfl⟩
  simp only [List.cons_append, List.nil_append]
  have hsn : sectorsOf n1 * 63 ≤ n1 + 78 ∧ n1 + 16 ≤ sectorsOf n1 * 63 := by unfold sectorsOf; omega
  generalize sectorsOf n1 = k at *
  (repeat (first | (apply Ops.q; rfl; rfl) | (apply Ops.gyB; rfl; rfl) | (apply Ops.gnB; rfl; decide) | (apply Ops.add; rfl; rfl; (constructor <;> omega)) | (apply Ops.sub; rfl; rfl; (constructor <;> omega)) | (apply Ops.rem; rfl; rfl; omega; omega) | (apply Ops.quo; rfl; rfl; (constructor <;> omega); omega)))
  refine Ops.nil (Segs.nil (Run.sub (l' := [(12, .int .i64 k), (11, .int .i64 n4), (10, .int .i64 n3), (9, .int .i64 n2), (8, .int .i64 n1), (7, .pointer (some ⟨r, 0, none⟩)), (5, .pointer (some ⟨b5, 0, none⟩)), (4, .int .i64 0), (3, .int .i64 0), (2, .slice none 0 0), (0, .pointer (some ⟨l, 0, none⟩))])
    (.cons rfl (.cons rfl (.cons rfl (.cons rfl (.cons rfl (.cons rfl (.cons rfl (.cons rfl (.cons rfl (.cons rfl (.cons rfl .nil))))))))))) ?_))
  obtain ⟨u, sr, hus⟩ := first_byte hlen
  subst hus
  (repeat (first | (apply Ops.q; rfl; rfl) | (apply Ops.gyB; rfl; rfl) | (apply Ops.gnB; rfl; decide) | (apply Ops.add; rfl; rfl; (constructor <;> omega)) | (apply Ops.sub; rfl; rfl; (constructor <;> omega)) | (apply Ops.rem; rfl; rfl; omega; omega) | (apply Ops.quo; rfl; rfl; (constructor <;> omega); omega) | (apply Ops.ld; rfl; (first | exact m0 | exact m1 | exact m2 | exact m3 | exact m4 | exact m5 | exact m6); rfl) | (apply Ops.st0; rfl; rfl; rfl; rfl; (first | exact u0 | exact u1 | exact u2 | exact u3 | exact u4 | exact u5); focus (simp; done)) | refine Ops.nil ?_ | refine Segs.nil ?_ | (apply Segs.oneS; rfl) | refine Run.seq ?_ | refine Run.reg ?_ | refine Run.block ?_ | refine Run.blk ?_ | refine Run.skip ?_))
  refine Ops.ixA rfl rfl ⟨by omega, by omega⟩ ?_
  refine Ops.ldF (v := bv u) rfl hFs rfl ?_
  unfold bv
  have hu := byte_eq u 2 (by omega)
  refine Ops.nil (Segs.oneS rfl ?_)
  refine Ops.q rfl rfl ?_
  by_cases c1 : u = 2
  case neg =>
    have hc : decide ((u.toNat : Int) = 2) = false := by rw [decide_eq_false_iff_not]; intro e; exact c1 (UInt8.toNat_inj.1 (by rw [show (2 : UInt8).toNat = 2 from rfl]; omega))
    simp only [hc, Bool.not_false]
    have hn : L.next D = none := by rw [hnx]; rw [if_neg (by simp only [List.getElem?_cons_zero, Option.some.injEq]; exact c1)]
    (repeat (first | (apply Ops.q; rfl; rfl) | (apply Ops.gyB; rfl; rfl) | (apply Ops.gnB; rfl; decide) | (apply Ops.add; rfl; rfl; (constructor <;> omega)) | (apply Ops.sub; rfl; rfl; (constructor <;> omega)) | (apply Ops.rem; rfl; rfl; omega; omega) | (apply Ops.quo; rfl; rfl; (constructor <;> omega); omega) | (apply Ops.ld; rfl; (first | exact m0 | exact m1 | exact m2 | exact m3 | exact m4 | exact m5 | exact m6); rfl) | (apply Ops.st0; rfl; rfl; rfl; rfl; (first | exact u0 | exact u1 | exact u2 | exact u3 | exact u4 | exact u5); focus (simp; done)) | refine Ops.nil ?_ | refine Segs.nil ?_ | (apply Segs.oneS; rfl) | refine Run.seq ?_ | refine Run.reg ?_ | refine Run.block ?_ | refine Run.blk ?_ | refine Run.skip ?_))
    refine Segs.lend [] .nil fun F3 x3 k3 => ?_
    (repeat (first | (apply Ops.q; rfl; rfl) | (apply Ops.gyB; rfl; rfl) | (apply Ops.gnB; rfl; decide) | (apply Ops.add; rfl; rfl; (constructor <;> omega)) | (apply Ops.sub; rfl; rfl; (constructor <;> omega)) | (apply Ops.rem; rfl; rfl; omega; omega) | (apply Ops.quo; rfl; rfl; (constructor <;> omega); omega) | (apply Ops.ld; rfl; (first | exact m0 | exact m1 | exact m2 | exact m3 | exact m4 | exact m5 | exact m6); rfl) | (apply Ops.st0; rfl; rfl; rfl; rfl; (first | exact u0 | exact u1 | exact u2 | exact u3 | exact u4 | exact u5); focus (simp; done)) | refine Ops.nil ?_ | refine Segs.nil ?_ | (apply Segs.oneS; rfl) | refine Run.seq ?_ | refine Run.reg ?_ | refine Run.block ?_ | refine Run.blk ?_ | refine Run.skip ?_))
    refine Run.condT rfl ?_
    (repeat (first | (apply Ops.q; rfl; rfl) | (apply Ops.gyB; rfl; rfl) | (apply Ops.gnB; rfl; decide) | (apply Ops.add; rfl; rfl; (constructor <;> omega)) | (apply Ops.sub; rfl; rfl; (constructor <;> omega)) | (apply Ops.rem; rfl; rfl; omega; omega) | (apply Ops.quo; rfl; rfl; (constructor <;> omega); omega) | (apply Ops.ld; rfl; (first | exact m0 | exact m1 | exact m2 | exact m3 | exact m4 | exact m5 | exact m6); rfl) | (apply Ops.st0; rfl; rfl; rfl; rfl; (first | exact u0 | exact u1 | exact u2 | exact u3 | exact u4 | exact u5); focus (simp; done)) | refine Ops.nil ?_ | refine Segs.nil ?_ | (apply Segs.oneS; rfl) | refine Run.seq ?_ | refine Run.reg ?_ | refine Run.block ?_ | refine Run.blk ?_ | refine Run.skip ?_))
    exact hnone hn rfl rfl rfl (fun h q => take_sub (.cons s1 .nil) h q)
  have hc1 : decide ((u.toNat : Int) = 2) = true := by rw [decide_eq_true_iff, c1]; rfl
  simp only [hc1, Bool.not_true]
  rw [if_pos (by rw [c1]; rfl)] at hnx
  (repeat (first | (apply Ops.q; rfl; rfl) | (apply Ops.gyB; rfl; rfl) | (apply Ops.gnB; rfl; decide) | (apply Ops.add; rfl; rfl; (constructor <;> omega)) | (apply Ops.sub; rfl; rfl; (constructor <;> omega)) | (apply Ops.rem; rfl; rfl; omega; omega) | (apply Ops.quo; rfl; rfl; (constructor <;> omega); omega) | (apply Ops.ld; rfl; (first | exact m0 | exact m1 | exact m2 | exact m3 | exact m4 | exact m5 | exact m6); rfl) | (apply Ops.st0; rfl; rfl; rfl; rfl; (first | exact u0 | exact u1 | exact u2 | exact u3 | exact u4 | exact u5); focus (simp; done)) | refine Ops.nil ?_ | refine Segs.nil ?_ | (apply Segs.oneS; rfl) | refine Run.seq ?_ | refine Run.reg ?_ | refine Run.block ?_ | refine Run.blk ?_ | refine Run.skip ?_))
  refine Ops.call1 rfl (.cons s0 .nil) (fun F' e _ => rec_Reader_Good r R4 F') ?_
  rintro v G ⟨rfl, rfl⟩
  simp only [List.cons_append, List.nil_append]
  cases c2 : R4.bad
  case true =>
    rw [c2, if_pos rfl] at hnx
    simp only [Bool.not_true]
    have hn : L.next D = none := hnx
    (repeat (first | (apply Ops.q; rfl; rfl) | (apply Ops.gyB; rfl; rfl) | (apply Ops.gnB; rfl; decide) | (apply Ops.add; rfl; rfl; (constructor <;> omega)) | (apply Ops.sub; rfl; rfl; (constructor <;> omega)) | (apply Ops.rem; rfl; rfl; omega; omega) | (apply Ops.quo; rfl; rfl; (constructor <;> omega); omega) | (apply Ops.ld; rfl; (first | exact m0 | exact m1 | exact m2 | exact m3 | exact m4 | exact m5 | exact m6); rfl) | (apply Ops.st0; rfl; rfl; rfl; rfl; (first | exact u0 | exact u1 | exact u2 | exact u3 | exact u4 | exact u5); focus (simp; done)) | refine Ops.nil ?_ | refine Segs.nil ?_ | (apply Segs.oneS; rfl) | refine Run.seq ?_ | refine Run.reg ?_ | refine Run.block ?_ | refine Run.blk ?_ | refine Run.skip ?_))
    refine Segs.lend [] .nil fun F3 x3 k3 => ?_
    (repeat (first | (apply Ops.q; rfl; rfl) | (apply Ops.gyB; rfl; rfl) | (apply Ops.gnB; rfl; decide) | (apply Ops.add; rfl; rfl; (constructor <;> omega)) | (apply Ops.sub; rfl; rfl; (constructor <;> omega)) | (apply Ops.rem; rfl; rfl; omega; omega) | (apply Ops.quo; rfl; rfl; (constructor <;> omega); omega) | (apply Ops.ld; rfl; (first | exact m0 | exact m1 | exact m2 | exact m3 | exact m4 | exact m5 | exact m6); rfl) | (apply Ops.st0; rfl; rfl; rfl; rfl; (first | exact u0 | exact u1 | exact u2 | exact u3 | exact u4 | exact u5); focus (simp; done)) | refine Ops.nil ?_ | refine Segs.nil ?_ | (apply Segs.oneS; rfl) | refine Run.seq ?_ | refine Run.reg ?_ | refine Run.block ?_ | refine Run.blk ?_ | refine Run.skip ?_))
    refine Run.condT rfl ?_
    (repeat (first | (apply Ops.q; rfl; rfl) | (apply Ops.gyB; rfl; rfl) | (apply Ops.gnB; rfl; decide) | (apply Ops.add; rfl; rfl; (constructor <;> omega)) | (apply Ops.sub; rfl; rfl; (constructor <;> omega)) | (apply Ops.rem; rfl; rfl; omega; omega) | (apply Ops.quo; rfl; rfl; (constructor <;> omega); omega) | (apply Ops.ld; rfl; (first | exact m0 | exact m1 | exact m2 | exact m3 | exact m4 | exact m5 | exact m6); rfl) | (apply Ops.st0; rfl; rfl; rfl; rfl; (first | exact u0 | exact u1 | exact u2 | exact u3 | exact u4 | exact u5); focus (simp; done)) | refine Ops.nil ?_ | refine Segs.nil ?_ | (apply Segs.oneS; rfl) | refine Run.seq ?_ | refine Run.reg ?_ | refine Run.block ?_ | refine Run.blk ?_ | refine Run.skip ?_))
    exact hnone hn rfl rfl rfl (fun h q => take_sub (.cons s1 .nil) h q)
  rw [c2, if_neg (by decide)] at hnx
  simp only [Bool.not_false]
  (repeat (first | (apply Ops.q; rfl; rfl) | (apply Ops.gyB; rfl; rfl) | (apply Ops.gnB; rfl; decide) | (apply Ops.add; rfl; rfl; (constructor <;> omega)) | (apply Ops.sub; rfl; rfl; (constructor <;> omega)) | (apply Ops.rem; rfl; rfl; omega; omega) | (apply Ops.quo; rfl; rfl; (constructor <;> omega); omega) | (apply Ops.ld; rfl; (first | exact m0 | exact m1 | exact m2 | exact m3 | exact m4 | exact m5 | exact m6); rfl) | (apply Ops.st0; rfl; rfl; rfl; rfl; (first | exact u0 | exact u1 | exact u2 | exact u3 | exact u4 | exact u5); focus (simp; done)) | refine Ops.nil ?_ | refine Segs.nil ?_ | (apply Segs.oneS; rfl) | refine Run.seq ?_ | refine Run.reg ?_ | refine Run.block ?_ | refine Run.blk ?_ | refine Run.skip ?_))
  refine Ops.ldF rfl hF2 rfl ?_
  refine Ops.nil (Segs.oneS rfl ?_)
  (repeat (first | (apply Ops.q; rfl; rfl) | (apply Ops.gyB; rfl; rfl) | (apply Ops.gnB; rfl; decide) | (apply Ops.add; rfl; rfl; (constructor <;> omega)) | (apply Ops.sub; rfl; rfl; (constructor <;> omega)) | (apply Ops.rem; rfl; rfl; omega; omega) | (apply Ops.quo; rfl; rfl; (constructor <;> omega); omega)))
  by_cases c3 : n2 = L.list.length
  case neg =>
    have hc : decide ((n2 : Int) = (L.list.length : Int)) = false := by rw [decide_eq_false_iff_not]; omega
    rw [if_neg (by omega)] at hnx
    simp only [hc, Bool.not_false]
    have hn : L.next D = none := hnx
    (repeat (first | (apply Ops.q; rfl; rfl) | (apply Ops.gyB; rfl; rfl) | (apply Ops.gnB; rfl; decide) | (apply Ops.add; rfl; rfl; (constructor <;> omega)) | (apply Ops.sub; rfl; rfl; (constructor <;> omega)) | (apply Ops.rem; rfl; rfl; omega; omega) | (apply Ops.quo; rfl; rfl; (constructor <;> omega); omega) | (apply Ops.ld; rfl; (first | exact m0 | exact m1 | exact m2 | exact m3 | exact m4 | exact m5 | exact m6); rfl) | (apply Ops.st0; rfl; rfl; rfl; rfl; (first | exact u0 | exact u1 | exact u2 | exact u3 | exact u4 | exact u5); focus (simp; done)) | refine Ops.nil ?_ | refine Segs.nil ?_ | (apply Segs.oneS; rfl) | refine Run.seq ?_ | refine Run.reg ?_ | refine Run.block ?_ | refine Run.blk ?_ | refine Run.skip ?_))
    refine Segs.lend [] .nil fun F3 x3 k3 => ?_
    (repeat (first | (apply Ops.q; rfl; rfl) | (apply Ops.gyB; rfl; rfl) | (apply Ops.gnB; rfl; decide) | (apply Ops.add; rfl; rfl; (constructor <;> omega)) | (apply Ops.sub; rfl; rfl; (constructor <;> omega)) | (apply Ops.rem; rfl; rfl; omega; omega) | (apply Ops.quo; rfl; rfl; (constructor <;> omega); omega) | (apply Ops.ld; rfl; (first | exact m0 | exact m1 | exact m2 | exact m3 | exact m4 | exact m5 | exact m6); rfl) | (apply Ops.st0; rfl; rfl; rfl; rfl; (first | exact u0 | exact u1 | exact u2 | exact u3 | exact u4 | exact u5); focus (simp; done)) | refine Ops.nil ?_ | refine Segs.nil ?_ | (apply Segs.oneS; rfl) | refine Run.seq ?_ | refine Run.reg ?_ | refine Run.block ?_ | refine Run.blk ?_ | refine Run.skip ?_))
    refine Run.condT rfl ?_
    (repeat (first | (apply Ops.q; rfl; rfl) | (apply Ops.gyB; rfl; rfl) | (apply Ops.gnB; rfl; decide) | (apply Ops.add; rfl; rfl; (constructor <;> omega)) | (apply Ops.sub; rfl; rfl; (constructor <;> omega)) | (apply Ops.rem; rfl; rfl; omega; omega) | (apply Ops.quo; rfl; rfl; (constructor <;> omega); omega) | (apply Ops.ld; rfl; (first | exact m0 | exact m1 | exact m2 | exact m3 | exact m4 | exact m5 | exact m6); rfl) | (apply Ops.st0; rfl; rfl; rfl; rfl; (first | exact u0 | exact u1 | exact u2 | exact u3 | exact u4 | exact u5); focus (simp; done)) | refine Ops.nil ?_ | refine Segs.nil ?_ | (apply Segs.oneS; rfl) | refine Run.seq ?_ | refine Run.reg ?_ | refine Run.block ?_ | refine Run.blk ?_ | refine Run.skip ?_))
    exact hnone hn rfl rfl rfl (fun h q => take_sub (.cons s1 .nil) h q)
  have hc3 : decide ((n2 : Int) = (L.list.length : Int)) = true := by rw [decide_eq_true_iff]; omega
  rw [if_pos (by omega)] at hnx
  simp only [hc3, Bool.not_true]
  (repeat (first | (apply Ops.q; rfl; rfl) | (apply Ops.gyB; rfl; rfl) | (apply Ops.gnB; rfl; decide) | (apply Ops.add; rfl; rfl; (constructor <;> omega)) | (apply Ops.sub; rfl; rfl; (constructor <;> omega)) | (apply Ops.rem; rfl; rfl; omega; omega) | (apply Ops.quo; rfl; rfl; (constructor <;> omega); omega) | (apply Ops.ld; rfl; (first | exact m0 | exact m1 | exact m2 | exact m3 | exact m4 | exact m5 | exact m6); rfl) | (apply Ops.st0; rfl; rfl; rfl; rfl; (first | exact u0 | exact u1 | exact u2 | exact u3 | exact u4 | exact u5); focus (simp; done)) | refine Ops.nil ?_ | refine Segs.nil ?_ | (apply Segs.oneS; rfl) | refine Run.seq ?_ | refine Run.reg ?_ | refine Run.block ?_ | refine Run.blk ?_ | refine Run.skip ?_))
  refine Ops.ldF rfl hF2 rfl ?_
  refine Ops.nil (Segs.lend [] .nil fun F3 x3 k3 => ?_)
  (repeat (first | (apply Ops.q; rfl; rfl) | (apply Ops.gyB; rfl; rfl) | (apply Ops.gnB; rfl; decide) | (apply Ops.add; rfl; rfl; (constructor <;> omega)) | (apply Ops.sub; rfl; rfl; (constructor <;> omega)) | (apply Ops.rem; rfl; rfl; omega; omega) | (apply Ops.quo; rfl; rfl; (constructor <;> omega); omega)))
  by_cases c4 : n3 = L.epoch
  case neg =>
    have hc : decide ((n3 : Int) = (L.epoch : Int)) = false := by rw [decide_eq_false_iff_not]; omega
    rw [if_neg (by omega)] at hnx
    simp only [hc, Bool.not_false]
    have hn : L.next D = none := hnx
    (repeat (first | (apply Ops.q; rfl; rfl) | (apply Ops.gyB; rfl; rfl) | (apply Ops.gnB; rfl; decide) | (apply Ops.add; rfl; rfl; (constructor <;> omega)) | (apply Ops.sub; rfl; rfl; (constructor <;> omega)) | (apply Ops.rem; rfl; rfl; omega; omega) | (apply Ops.quo; rfl; rfl; (constructor <;> omega); omega) | (apply Ops.ld; rfl; (first | exact m0 | exact m1 | exact m2 | exact m3 | exact m4 | exact m5 | exact m6); rfl) | (apply Ops.st0; rfl; rfl; rfl; rfl; (first | exact u0 | exact u1 | exact u2 | exact u3 | exact u4 | exact u5); focus (simp; done)) | refine Ops.nil ?_ | refine Segs.nil ?_ | (apply Segs.oneS; rfl) | refine Run.seq ?_ | refine Run.reg ?_ | refine Run.block ?_ | refine Run.blk ?_ | refine Run.skip ?_))
    refine Run.condT rfl ?_
    (repeat (first | (apply Ops.q; rfl; rfl) | (apply Ops.gyB; rfl; rfl) | (apply Ops.gnB; rfl; decide) | (apply Ops.add; rfl; rfl; (constructor <;> omega)) | (apply Ops.sub; rfl; rfl; (constructor <;> omega)) | (apply Ops.rem; rfl; rfl; omega; omega) | (apply Ops.quo; rfl; rfl; (constructor <;> omega); omega) | (apply Ops.ld; rfl; (first | exact m0 | exact m1 | exact m2 | exact m3 | exact m4 | exact m5 | exact m6); rfl) | (apply Ops.st0; rfl; rfl; rfl; rfl; (first | exact u0 | exact u1 | exact u2 | exact u3 | exact u4 | exact u5); focus (simp; done)) | refine Ops.nil ?_ | refine Segs.nil ?_ | (apply Segs.oneS; rfl) | refine Run.seq ?_ | refine Run.reg ?_ | refine Run.block ?_ | refine Run.blk ?_ | refine Run.skip ?_))
    exact hnone hn rfl rfl rfl (fun h q => take_sub (.cons s1 .nil) h q)
  have hc4 : decide ((n3 : Int) = (L.epoch : Int)) = true := by rw [decide_eq_true_iff]; omega
  rw [if_pos (by omega)] at hnx
  simp only [hc4, Bool.not_true]
  (repeat (first | (apply Ops.q; rfl; rfl) | (apply Ops.gyB; rfl; rfl) | (apply Ops.gnB; rfl; decide) | (apply Ops.add; rfl; rfl; (constructor <;> omega)) | (apply Ops.sub; rfl; rfl; (constructor <;> omega)) | (apply Ops.rem; rfl; rfl; omega; omega) | (apply Ops.quo; rfl; rfl; (constructor <;> omega); omega) | (apply Ops.ld; rfl; (first | exact m0 | exact m1 | exact m2 | exact m3 | exact m4 | exact m5 | exact m6); rfl) | (apply Ops.st0; rfl; rfl; rfl; rfl; (first | exact u0 | exact u1 | exact u2 | exact u3 | exact u4 | exact u5); focus (simp; done)) | refine Ops.nil ?_ | refine Segs.nil ?_ | (apply Segs.oneS; rfl) | refine Run.seq ?_ | refine Run.reg ?_ | refine Run.block ?_ | refine Run.blk ?_ | refine Run.skip ?_))
  refine Ops.ldF rfl (x3 _ _ hF2) rfl ?_
  (repeat (first | (apply Ops.q; rfl; rfl) | (apply Ops.gyB; rfl; rfl) | (apply Ops.gnB; rfl; decide) | (apply Ops.add; rfl; rfl; (constructor <;> omega)) | (apply Ops.sub; rfl; rfl; (constructor <;> omega)) | (apply Ops.rem; rfl; rfl; omega; omega) | (apply Ops.quo; rfl; rfl; (constructor <;> omega); omega) | (apply Ops.ld; rfl; (first | exact m0 | exact m1 | exact m2 | exact m3 | exact m4 | exact m5 | exact m6); rfl) | (apply Ops.st0; rfl; rfl; rfl; rfl; (first | exact u0 | exact u1 | exact u2 | exact u3 | exact u4 | exact u5); focus (simp; done)) | refine Ops.nil ?_ | refine Segs.nil ?_ | (apply Segs.oneS; rfl) | refine Run.seq ?_ | refine Run.reg ?_ | refine Run.block ?_ | refine Run.blk ?_ | refine Run.skip ?_))
  refine Ops.ldF rfl (x3 _ _ hF2) rfl ?_
  (repeat (first | (apply Ops.q; rfl; rfl) | (apply Ops.gyB; rfl; rfl) | (apply Ops.gnB; rfl; decide) | (apply Ops.add; rfl; rfl; (constructor <;> omega)) | (apply Ops.sub; rfl; rfl; (constructor <;> omega)) | (apply Ops.rem; rfl; rfl; omega; omega) | (apply Ops.quo; rfl; rfl; (constructor <;> omega); omega) | (apply Ops.ld; rfl; (first | exact m0 | exact m1 | exact m2 | exact m3 | exact m4 | exact m5 | exact m6); rfl) | (apply Ops.st0; rfl; rfl; rfl; rfl; (first | exact u0 | exact u1 | exact u2 | exact u3 | exact u4 | exact u5); focus (simp; done)) | refine Ops.nil ?_ | refine Segs.nil ?_ | (apply Segs.oneS; rfl) | refine Run.seq ?_ | refine Run.reg ?_ | refine Run.block ?_ | refine Run.blk ?_ | refine Run.skip ?_))
  refine Ops.call1 rfl (.cons s1 .nil) (fun F' _ _ => log_half d D (by omega) F') ?_
  rintro v G ⟨rfl, rfl⟩
  simp only [List.cons_append, List.nil_append]
  refine Ops.nil (Segs.oneS rfl ?_)
  (repeat (first | (apply Ops.q; rfl; rfl) | (apply Ops.gyB; rfl; rfl) | (apply Ops.gnB; rfl; decide) | (apply Ops.add; rfl; rfl; (constructor <;> omega)) | (apply Ops.sub; rfl; rfl; (constructor <;> omega)) | (apply Ops.rem; rfl; rfl; omega; omega) | (apply Ops.quo; rfl; rfl; (constructor <;> omega); omega)))
  refine Ops.nil (Segs.nil ?_)
  refine Run.condD rfl (fun c5 => ?_) (fun c5 => ?_)
  · rw [if_pos (by omega)] at hnx
    (repeat (first | (apply Ops.q; rfl; rfl) | (apply Ops.gyB; rfl; rfl) | (apply Ops.gnB; rfl; decide) | (apply Ops.add; rfl; rfl; (constructor <;> omega)) | (apply Ops.sub; rfl; rfl; (constructor <;> omega)) | (apply Ops.rem; rfl; rfl; omega; omega) | (apply Ops.quo; rfl; rfl; (constructor <;> omega); omega) | (apply Ops.ld; rfl; (first | exact m0 | exact m1 | exact m2 | exact m3 | exact m4 | exact m5 | exact m6); rfl) | (apply Ops.st0; rfl; rfl; rfl; rfl; (first | exact u0 | exact u1 | exact u2 | exact u3 | exact u4 | exact u5); focus (simp; done)) | refine Ops.nil ?_ | refine Segs.nil ?_ | (apply Segs.oneS; rfl) | refine Run.seq ?_ | refine Run.reg ?_ | refine Run.block ?_ | refine Run.blk ?_ | refine Run.skip ?_))
    exact hnone hnx rfl rfl rfl (fun h q => take_sub (.cons s0 .nil) h q)
  rw [if_neg (by omega)] at hnx
  refine Run.skip ?_
  refine Run.again (l' := [(12, .int .i64 k), (11, .int .i64 n4), (10, .int .i64 n3), (9, .int .i64 n2), (8, .int .i64 n1), (5, .pointer (some ⟨b5, 0, none⟩)), (0, .pointer (some ⟨l, 0, none⟩))]) (H' := [DiskP d D]) ?_
    (.cons rfl (.cons rfl (.cons rfl (.cons rfl (.cons rfl (.cons rfl (.cons rfl .nil))))))) (fun h q => take_sub (.cons s0 .nil) h q)
  clear k3 x3 F3 hc1 hc3 hc4 c2 R4 ha1 a1 hu k1 x1
  have hrd : ∀ a c, a = some ⟨b5, 17, none⟩ ∨ 47 = 0 → RdB F2 (.slice a 47 c) ((u :: sr).drop 17) := by
    intro a c ha
    have := rdB_at hFs 47 (o := 17) (by omega) (a := a) (c := c) ha
    rwa [List.take_of_length_le (by rw [List.length_drop]; omega)] at this
  have hl17 : ((u :: sr).drop 17).length = 47 := by rw [List.length_drop]; omega
  clear k2 hFs
  generalize (u :: sr).drop 17 = b0 at *
  (repeat (first | (apply Ops.q; rfl; rfl) | (apply Ops.gyB; rfl; rfl) | (apply Ops.gnB; rfl; decide) | (apply Ops.add; rfl; rfl; (constructor <;> omega)) | (apply Ops.sub; rfl; rfl; (constructor <;> omega)) | (apply Ops.rem; rfl; rfl; omega; omega) | (apply Ops.quo; rfl; rfl; (constructor <;> omega); omega) | (apply Ops.ld; rfl; (first | exact m0 | exact m1 | exact m2 | exact m3 | exact m4 | exact m5 | exact m6); rfl) | (apply Ops.st0; rfl; rfl; rfl; rfl; (first | exact u0 | exact u1 | exact u2 | exact u3 | exact u4 | exact u5); focus (simp; done)) | refine Ops.nil ?_ | refine Segs.nil ?_ | (apply Segs.oneS; rfl) | refine Run.seq ?_ | refine Run.reg ?_ | refine Run.block ?_ | refine Run.blk ?_ | refine Run.skip ?_))
  refine Ops.slA (l1 := 17) (h1 := 64) rfl rfl rfl (by omega) (by omega) fun a2 ha2 => ?_
  have hr2 := hrd a2 (64 - 17) ha2
  refine Ops.appN (m := 47) (ys := bvs b0) rfl rfl rfl (fun w h q f => by have := hr2.shows w h q f; rw [hl17] at this; exact this) (bvs_one b0) (by rw [bvs_len, hl17]; rfl) (by decide) (app_fit (by omega) (by decide)) fun a3 c3' => ?_
  (repeat (first | (apply Ops.q; rfl; rfl) | (apply Ops.gyB; rfl; rfl) | (apply Ops.gnB; rfl; decide) | (apply Ops.add; rfl; rfl; (constructor <;> omega)) | (apply Ops.sub; rfl; rfl; (constructor <;> omega)) | (apply Ops.rem; rfl; rfl; omega; omega) | (apply Ops.quo; rfl; rfl; (constructor <;> omega); omega) | (apply Ops.ld; rfl; (first | exact m0 | exact m1 | exact m2 | exact m3 | exact m4 | exact m5 | exact m6); rfl) | (apply Ops.st0; rfl; rfl; rfl; rfl; (first | exact u0 | exact u1 | exact u2 | exact u3 | exact u4 | exact u5); focus (simp; done)) | refine Ops.nil ?_ | refine Segs.nil ?_ | (apply Segs.oneS; rfl) | refine Run.seq ?_ | refine Run.reg ?_ | refine Run.block ?_ | refine Run.blk ?_ | refine Run.skip ?_))
  refine Run.loopI (ι := Nat × Bytes × Option Addr × Nat) (fun x => k - x.1) (fun x => 1 ≤ x.1 ∧ x.1 ≤ k ∧ x.2.1.length = 47 + 63 * (x.1 - 1) ∧ gather D (L.base D L.pos) (k - 1) 1 b0 = gather D (L.base D L.pos) (k - x.1) x.1 x.2.1)
    (fun x => [(14, .int .i64 x.1), (13, .slice x.2.2.1 x.2.1.length x.2.2.2), (12, .int .i64 k), (11, .int .i64 n4), (10, .int .i64 n3), (9, .int .i64 n2), (8, .int .i64 n1), (0, .pointer (some ⟨l, 0, none⟩))])
    (fun x => [OwnS x.2.2.1 x.2.1.length x.2.2.2 1 5 (bvs x.2.1), DiskP d D])
    (1, b0, a3, c3') ⟨Nat.le_refl _, by dsimp only; omega, by dsimp only; omega, rfl⟩ (.cons rfl (.cons (by rw [hl17]; rfl) (.cons rfl (.cons rfl (.cons rfl (.cons rfl (.cons rfl (.cons rfl .nil)))))))) (fun h q => by rw [hl17]; exact q) ?_
  rintro ⟨j, acc, a4, c4'⟩ ⟨hj1, hjk, hal, hga⟩ ih
  dsimp only at hj1 hjk hal hga ih ⊢
  unfold ec_log_Log_next_L0
  (repeat (first | (apply Ops.q; rfl; rfl) | (apply Ops.gyB; rfl; rfl) | (apply Ops.gnB; rfl; decide) | (apply Ops.add; rfl; rfl; (constructor <;> omega)) | (apply Ops.sub; rfl; rfl; (constructor <;> omega)) | (apply Ops.rem; rfl; rfl; omega; omega) | (apply Ops.quo; rfl; rfl; (constructor <;> omega); omega) | (apply Ops.ld; rfl; (first | exact m0 | exact m1 | exact m2 | exact m3 | exact m4 | exact m5 | exact m6); rfl) | (apply Ops.st0; rfl; rfl; rfl; rfl; (first | exact u0 | exact u1 | exact u2 | exact u3 | exact u4 | exact u5); focus (simp; done)) | refine Ops.nil ?_ | refine Segs.nil ?_ | (apply Segs.oneS; rfl) | refine Run.seq ?_ | refine Run.reg ?_ | refine Run.block ?_ | refine Run.blk ?_ | refine Run.skip ?_))
  refine Run.condD rfl (fun hlt => ?_) (fun hge => ?_)
  · have hlt' : j < k := by omega
    have hpj : L.pos + j < D.hf := by omega
    have hbj : L.base D (L.pos + j) = L.base D L.pos + j := by unfold LogS.base; omega
    have hlen2 := at_len hok hd (hb _ hpj)
    rw [hbj] at hlen2
    rw [show k - j = (k - (j + 1)) + 1 by omega] at hga
    simp only [gather] at hga
    have ih' := fun acc a c => ih (j + 1, acc, a, c)
    dsimp only at ih'
    clear ih
    (repeat (first | (apply Ops.q; rfl; rfl) | (apply Ops.gyB; rfl; rfl) | (apply Ops.gnB; rfl; decide) | (apply Ops.add; rfl; rfl; (constructor <;> omega)) | (apply Ops.sub; rfl; rfl; (constructor <;> omega)) | (apply Ops.rem; rfl; rfl; omega; omega) | (apply Ops.quo; rfl; rfl; (constructor <;> omega); omega) | (apply Ops.ld; rfl; (first | exact m0 | exact m1 | exact m2 | exact m3 | exact m4 | exact m5 | exact m6); rfl) | (apply Ops.st0; rfl; rfl; rfl; rfl; (first | exact u0 | exact u1 | exact u2 | exact u3 | exact u4 | exact u5); focus (simp; done)) | refine Ops.nil ?_ | refine Segs.nil ?_ | (apply Segs.oneS; rfl) | refine Run.seq ?_ | refine Run.reg ?_ | refine Run.block ?_ | refine Run.blk ?_ | refine Run.skip ?_))
    refine Ops.ldF rfl hF2 rfl ?_
    (repeat (first | (apply Ops.q; rfl; rfl) | (apply Ops.gyB; rfl; rfl) | (apply Ops.gnB; rfl; decide) | (apply Ops.add; rfl; rfl; (constructor <;> omega)) | (apply Ops.sub; rfl; rfl; (constructor <;> omega)) | (apply Ops.rem; rfl; rfl; omega; omega) | (apply Ops.quo; rfl; rfl; (constructor <;> omega); omega) | (apply Ops.ld; rfl; (first | exact m0 | exact m1 | exact m2 | exact m3 | exact m4 | exact m5 | exact m6); rfl) | (apply Ops.st0; rfl; rfl; rfl; rfl; (first | exact u0 | exact u1 | exact u2 | exact u3 | exact u4 | exact u5); focus (simp; done)) | refine Ops.nil ?_ | refine Segs.nil ?_ | (apply Segs.oneS; rfl) | refine Run.seq ?_ | refine Run.reg ?_ | refine Run.block ?_ | refine Run.blk ?_ | refine Run.skip ?_))
    have hcast : (L.pos : Int) + (j : Int) = ((L.pos + j : Nat) : Int) := by omega
    rw [hcast]
    refine Ops.call1 rfl (.cons s1 .nil) (fun F' e _ => log_read l d L a L.list.length c D hd (by omega) (L.pos + j) ok.half hpj hok F' (e _ _ hF2)) ?_
    rintro v G ⟨rfl, rfl⟩
    rw [hbj]
    simp only [List.cons_append, List.nil_append]
    generalize D.at_ (L.base D L.pos + j) = t at *
    (repeat (first | (apply Ops.q; rfl; rfl) | (apply Ops.gyB; rfl; rfl) | (apply Ops.gnB; rfl; decide) | (apply Ops.add; rfl; rfl; (constructor <;> omega)) | (apply Ops.sub; rfl; rfl; (constructor <;> omega)) | (apply Ops.rem; rfl; rfl; omega; omega) | (apply Ops.quo; rfl; rfl; (constructor <;> omega); omega) | (apply Ops.ld; rfl; (first | exact m0 | exact m1 | exact m2 | exact m3 | exact m4 | exact m5 | exact m6); rfl) | (apply Ops.st0; rfl; rfl; rfl; rfl; (first | exact u0 | exact u1 | exact u2 | exact u3 | exact u4 | exact u5); focus (simp; done)) | refine Ops.nil ?_ | refine Segs.nil ?_ | (apply Segs.oneS; rfl) | refine Run.seq ?_ | refine Run.reg ?_ | refine Run.block ?_ | refine Run.blk ?_ | refine Run.skip ?_))
    refine Ops.alloc fun b6 => ?_
    refine Ops.stS hlen2 rfl rfl u0 ?_
    (repeat (first | (apply Ops.q; rfl; rfl) | (apply Ops.gyB; rfl; rfl) | (apply Ops.gnB; rfl; decide) | (apply Ops.add; rfl; rfl; (constructor <;> omega)) | (apply Ops.sub; rfl; rfl; (constructor <;> omega)) | (apply Ops.rem; rfl; rfl; omega; omega) | (apply Ops.quo; rfl; rfl; (constructor <;> omega); omega) | (apply Ops.ld; rfl; (first | exact m0 | exact m1 | exact m2 | exact m3 | exact m4 | exact m5 | exact m6); rfl) | (apply Ops.st0; rfl; rfl; rfl; rfl; (first | exact u0 | exact u1 | exact u2 | exact u3 | exact u4 | exact u5); focus (simp; done)) | refine Ops.nil ?_ | refine Segs.nil ?_ | (apply Segs.oneS; rfl) | refine Run.seq ?_ | refine Run.reg ?_ | refine Run.block ?_ | refine Run.blk ?_ | refine Run.skip ?_))
    refine Run.condF rfl ?_
    obtain ⟨w, tr, htr⟩ := first_byte hlen2
    subst htr
    (repeat (first | (apply Ops.q; rfl; rfl) | (apply Ops.gyB; rfl; rfl) | (apply Ops.gnB; rfl; decide) | (apply Ops.add; rfl; rfl; (constructor <;> omega)) | (apply Ops.sub; rfl; rfl; (constructor <;> omega)) | (apply Ops.rem; rfl; rfl; omega; omega) | (apply Ops.quo; rfl; rfl; (constructor <;> omega); omega) | (apply Ops.ld; rfl; (first | exact m0 | exact m1 | exact m2 | exact m3 | exact m4 | exact m5 | exact m6); rfl) | (apply Ops.st0; rfl; rfl; rfl; rfl; (first | exact u0 | exact u1 | exact u2 | exact u3 | exact u4 | exact u5); focus (simp; done)) | refine Ops.nil ?_ | refine Segs.nil ?_ | (apply Segs.oneS; rfl) | refine Run.seq ?_ | refine Run.reg ?_ | refine Run.block ?_ | refine Run.blk ?_ | refine Run.skip ?_))
    refine Ops.ixA rfl rfl ⟨by omega, by omega⟩ ?_
    refine Ops.ld (v := bv w) rfl m0 rfl ?_
    unfold bv
    refine Ops.q rfl rfl ?_
    by_cases hw : w = 3
    · have hc : decide ((w.toNat : Int) = 3) = true := by rw [decide_eq_true_iff, hw]; rfl
      simp only [hc, Bool.not_true]
      rw [if_pos (by rw [hw]; rfl)] at hga
      (repeat (first | (apply Ops.q; rfl; rfl) | (apply Ops.gyB; rfl; rfl) | (apply Ops.gnB; rfl; decide) | (apply Ops.add; rfl; rfl; (constructor <;> omega)) | (apply Ops.sub; rfl; rfl; (constructor <;> omega)) | (apply Ops.rem; rfl; rfl; omega; omega) | (apply Ops.quo; rfl; rfl; (constructor <;> omega); omega) | (apply Ops.ld; rfl; (first | exact m0 | exact m1 | exact m2 | exact m3 | exact m4 | exact m5 | exact m6); rfl) | (apply Ops.st0; rfl; rfl; rfl; rfl; (first | exact u0 | exact u1 | exact u2 | exact u3 | exact u4 | exact u5); focus (simp; done)) | refine Ops.nil ?_ | refine Segs.nil ?_ | (apply Segs.oneS; rfl) | refine Run.seq ?_ | refine Run.reg ?_ | refine Run.block ?_ | refine Run.blk ?_ | refine Run.skip ?_))
      refine Run.condF rfl ?_
      (repeat (first | (apply Ops.q; rfl; rfl) | (apply Ops.gyB; rfl; rfl) | (apply Ops.gnB; rfl; decide) | (apply Ops.add; rfl; rfl; (constructor <;> omega)) | (apply Ops.sub; rfl; rfl; (constructor <;> omega)) | (apply Ops.rem; rfl; rfl; omega; omega) | (apply Ops.quo; rfl; rfl; (constructor <;> omega); omega) | (apply Ops.ld; rfl; (first | exact m0 | exact m1 | exact m2 | exact m3 | exact m4 | exact m5 | exact m6); rfl) | (apply Ops.st0; rfl; rfl; rfl; rfl; (first | exact u0 | exact u1 | exact u2 | exact u3 | exact u4 | exact u5); focus (simp; done)) | refine Ops.nil ?_ | refine Segs.nil ?_ | (apply Segs.oneS; rfl) | refine Run.seq ?_ | refine Run.reg ?_ | refine Run.block ?_ | refine Run.blk ?_ | refine Run.skip ?_))
      refine Ops.slA (l1 := 1) (h1 := 64) rfl rfl rfl (by omega) (by omega) fun a5 ha5 => ?_
      have ha5' : a5 = some ⟨b6, 1, none⟩ := by
        rcases ha5 with h | h
        · exact h
        · omega
      subst ha5'
      have htl : ((w :: tr).drop 1).length = 63 := by rw [List.length_drop]; omega
      refine Ops.app (m := 63) (ys := bvs ((w :: tr).drop 1)) rfl rfl rfl s2 (shows_pt (s := 1) (L := bvs (w :: tr)) m0 (by rw [bvs_len]; omega) ?_) (bvs_one _) (by rw [bvs_len, htl]; rfl) (by decide) (app_fit (by omega) (by decide)) fun a6 c6 => ?_
      · rw [show bvs (w :: tr) = bv w :: bvs tr from rfl]
        simp only [List.drop_succ_cons, List.drop_zero] at htl ⊢
        rw [List.take_of_length_le]
        rw [bvs_len, htl]; exact Nat.le_refl _
      have hal2 : (acc ++ (w :: tr).drop 1).length = acc.length + 63 := by rw [List.length_append, htl]
      (repeat (first | (apply Ops.q; rfl; rfl) | (apply Ops.gyB; rfl; rfl) | (apply Ops.gnB; rfl; decide) | (apply Ops.add; rfl; rfl; (constructor <;> omega)) | (apply Ops.sub; rfl; rfl; (constructor <;> omega)) | (apply Ops.rem; rfl; rfl; omega; omega) | (apply Ops.quo; rfl; rfl; (constructor <;> omega); omega) | (apply Ops.ld; rfl; (first | exact m0 | exact m1 | exact m2 | exact m3 | exact m4 | exact m5 | exact m6); rfl) | (apply Ops.st0; rfl; rfl; rfl; rfl; (first | exact u0 | exact u1 | exact u2 | exact u3 | exact u4 | exact u5); focus (simp; done)) | refine Ops.nil ?_ | refine Segs.nil ?_ | (apply Segs.oneS; rfl) | refine Run.seq ?_ | refine Run.reg ?_ | refine Run.block ?_ | refine Run.blk ?_ | refine Run.skip ?_))
      refine Run.lp (Run.again (ih' (acc ++ (w :: tr).drop 1) a6 c6 (by omega) ⟨by omega, by omega, by rw [hal2]; omega, hga⟩)
        (.cons rfl (.cons (by rw [hal2]; rfl) (.cons rfl (.cons rfl (.cons rfl (.cons rfl (.cons rfl (.cons rfl .nil)))))))) (fun h q => ?_))
      rw [hal2, bvs_app]
      exact take_sub (.cons s0 (.cons s1 .nil)) h q
    · have hc : decide ((w.toNat : Int) = 3) = false := by rw [decide_eq_false_iff_not]; intro e; exact hw (UInt8.toNat_inj.1 (by rw [show (3 : UInt8).toNat = 3 from rfl]; omega))
      simp only [hc, Bool.not_false]
      rw [if_neg (by simp only [List.getElem?_cons_zero, Option.some.injEq]; exact hw)] at hga
      rw [hga] at hnx
      (repeat (first | (apply Ops.q; rfl; rfl) | (apply Ops.gyB; rfl; rfl) | (apply Ops.gnB; rfl; decide) | (apply Ops.add; rfl; rfl; (constructor <;> omega)) | (apply Ops.sub; rfl; rfl; (constructor <;> omega)) | (apply Ops.rem; rfl; rfl; omega; omega) | (apply Ops.quo; rfl; rfl; (constructor <;> omega); omega) | (apply Ops.ld; rfl; (first | exact m0 | exact m1 | exact m2 | exact m3 | exact m4 | exact m5 | exact m6); rfl) | (apply Ops.st0; rfl; rfl; rfl; rfl; (first | exact u0 | exact u1 | exact u2 | exact u3 | exact u4 | exact u5); focus (simp; done)) | refine Ops.nil ?_ | refine Segs.nil ?_ | (apply Segs.oneS; rfl) | refine Run.seq ?_ | refine Run.reg ?_ | refine Run.block ?_ | refine Run.blk ?_ | refine Run.skip ?_))
      refine Run.condT rfl ?_
      (repeat (first | (apply Ops.q; rfl; rfl) | (apply Ops.gyB; rfl; rfl) | (apply Ops.gnB; rfl; decide) | (apply Ops.add; rfl; rfl; (constructor <;> omega)) | (apply Ops.sub; rfl; rfl; (constructor <;> omega)) | (apply Ops.rem; rfl; rfl; omega; omega) | (apply Ops.quo; rfl; rfl; (constructor <;> omega); omega) | (apply Ops.ld; rfl; (first | exact m0 | exact m1 | exact m2 | exact m3 | exact m4 | exact m5 | exact m6); rfl) | (apply Ops.st0; rfl; rfl; rfl; rfl; (first | exact u0 | exact u1 | exact u2 | exact u3 | exact u4 | exact u5); focus (simp; done)) | refine Ops.nil ?_ | refine Segs.nil ?_ | (apply Segs.oneS; rfl) | refine Run.seq ?_ | refine Run.reg ?_ | refine Run.block ?_ | refine Run.blk ?_ | refine Run.skip ?_))
      exact hnone hnx rfl rfl rfl (fun h q => take_sub (.cons s1 .nil) h q)
  · have hjk2 : j = k := by omega
    subst hjk2
    rw [Nat.sub_self] at hga
    simp only [gather] at hga
    rw [hga] at hnx
    refine Run.exit rfl ?_
    refine Run.open_ s0 fun G hG => ?_
    obtain ⟨bb, rfl⟩ : ∃ bb, a4 = some ⟨bb, 0, none⟩ := by
      rcases hG.2 with ⟨_, h, _⟩ | ⟨b, _, h, _⟩
      · omega
      · exact ⟨b, h⟩
    have hcp := hG.cap
    have hn1 : n1 ≤ acc.length := by omega
    (repeat (first | (apply Ops.q; rfl; rfl) | (apply Ops.gyB; rfl; rfl) | (apply Ops.gnB; rfl; decide) | (apply Ops.add; rfl; rfl; (constructor <;> omega)) | (apply Ops.sub; rfl; rfl; (constructor <;> omega)) | (apply Ops.rem; rfl; rfl; omega; omega) | (apply Ops.quo; rfl; rfl; (constructor <;> omega); omega) | (apply Ops.ld; rfl; (first | exact m0 | exact m1 | exact m2 | exact m3 | exact m4 | exact m5 | exact m6); rfl) | (apply Ops.st0; rfl; rfl; rfl; rfl; (first | exact u0 | exact u1 | exact u2 | exact u3 | exact u4 | exact u5); focus (simp; done)) | refine Ops.nil ?_ | refine Segs.nil ?_ | (apply Segs.oneS; rfl) | refine Run.seq ?_ | refine Run.reg ?_ | refine Run.block ?_ | refine Run.blk ?_ | refine Run.skip ?_))
    refine Ops.slS (l1 := 0) (h1 := n1) rfl rfl rfl (Nat.zero_le _) (by omega) fun a7 ha7 => ?_
    have hrow : ∀ h, seps G h → seps [RowP (.slice a7 (n1 - 0) (c4' - 0)) (acc.take n1)] h := by
      intro h q
      have ha7' : a7 = some ⟨bb, 0, none⟩ ∨ n1 = 0 := ha7.imp (fun e => e) (fun e => e)
      rcases ha7' with rfl | rfl
      · obtain ⟨G', r1, q'⟩ := OwnI.front (c' := c4' - 0) hG hn1 h q
        exact ⟨h, noHp, (Split.empty h).symm, ⟨G', r1, q'⟩, trivial⟩
      · exact ⟨noHp, h, Split.empty h, ⟨[], ⟨a7, _, rfl, .inl ⟨rfl, rfl⟩⟩, trivial⟩, trivial⟩
    (repeat (first | (apply Ops.q; rfl; rfl) | (apply Ops.gyB; rfl; rfl) | (apply Ops.gnB; rfl; decide) | (apply Ops.add; rfl; rfl; (constructor <;> omega)) | (apply Ops.sub; rfl; rfl; (constructor <;> omega)) | (apply Ops.rem; rfl; rfl; omega; omega) | (apply Ops.quo; rfl; rfl; (constructor <;> omega); omega)))
    refine Ops.nil (Segs.nil ?_)
    refine Run.lendC G [RowP (.slice a7 (n1 - 0) (c4' - 0)) (acc.take n1)] (take_app G [DiskP d D]) hrow fun F4 x4 k4 => ?_
    have hrb : RdB F4 (.slice a7 (n1 - 0) (c4' - 0)) (acc.take n1) := (hG.rdB k4).take (c' := c4' - 0) hn1 ha7
    have htl : (acc.take n1).length = n1 := by rw [List.length_take]; omega
    clear k4 hrow hG
    have hnx2 : L.next D = if (crcOf ((le4 n2 ++ le4 n3) ++ acc.take n1) : Int) = n4 then some (acc.take n1, j) else none := hnx
    generalize acc.take n1 = bt at *
    simp only [Nat.sub_zero] at hrb ⊢
    (repeat (first | (apply Ops.q; rfl; rfl) | (apply Ops.gyB; rfl; rfl) | (apply Ops.gnB; rfl; decide) | (apply Ops.add; rfl; rfl; (constructor <;> omega)) | (apply Ops.sub; rfl; rfl; (constructor <;> omega)) | (apply Ops.rem; rfl; rfl; omega; omega) | (apply Ops.quo; rfl; rfl; (constructor <;> omega); omega) | (apply Ops.ld; rfl; (first | exact m0 | exact m1 | exact m2 | exact m3 | exact m4 | exact m5 | exact m6); rfl) | (apply Ops.st0; rfl; rfl; rfl; rfl; (first | exact u0 | exact u1 | exact u2 | exact u3 | exact u4 | exact u5); focus (simp; done)) | refine Ops.nil ?_ | refine Segs.nil ?_ | (apply Segs.oneS; rfl) | refine Run.seq ?_ | refine Run.reg ?_ | refine Run.block ?_ | refine Run.blk ?_ | refine Run.skip ?_))
    refine Ops.call1 rfl .nil (fun F' _ _ => rec_Num n2 (by omega) F') ?_
    rintro v G1 ⟨b1, rfl, rfl⟩
    simp only [List.cons_append, List.nil_append]
    (repeat (first | (apply Ops.q; rfl; rfl) | (apply Ops.gyB; rfl; rfl) | (apply Ops.gnB; rfl; decide) | (apply Ops.add; rfl; rfl; (constructor <;> omega)) | (apply Ops.sub; rfl; rfl; (constructor <;> omega)) | (apply Ops.rem; rfl; rfl; omega; omega) | (apply Ops.quo; rfl; rfl; (constructor <;> omega); omega) | (apply Ops.ld; rfl; (first | exact m0 | exact m1 | exact m2 | exact m3 | exact m4 | exact m5 | exact m6); rfl) | (apply Ops.st0; rfl; rfl; rfl; rfl; (first | exact u0 | exact u1 | exact u2 | exact u3 | exact u4 | exact u5); focus (simp; done)) | refine Ops.nil ?_ | refine Segs.nil ?_ | (apply Segs.oneS; rfl) | refine Run.seq ?_ | refine Run.reg ?_ | refine Run.block ?_ | refine Run.blk ?_ | refine Run.skip ?_))
    refine Ops.call1 rfl .nil (fun F' _ _ => rec_Num n3 (by omega) F') ?_
    rintro v G1 ⟨b2, rfl, rfl⟩
    simp only [List.cons_append, List.nil_append]
    (repeat (first | (apply Ops.q; rfl; rfl) | (apply Ops.gyB; rfl; rfl) | (apply Ops.gnB; rfl; decide) | (apply Ops.add; rfl; rfl; (constructor <;> omega)) | (apply Ops.sub; rfl; rfl; (constructor <;> omega)) | (apply Ops.rem; rfl; rfl; omega; omega) | (apply Ops.quo; rfl; rfl; (constructor <;> omega); omega) | (apply Ops.ld; rfl; (first | exact m0 | exact m1 | exact m2 | exact m3 | exact m4 | exact m5 | exact m6); rfl) | (apply Ops.st0; rfl; rfl; rfl; rfl; (first | exact u0 | exact u1 | exact u2 | exact u3 | exact u4 | exact u5); focus (simp; done)) | refine Ops.nil ?_ | refine Segs.nil ?_ | (apply Segs.oneS; rfl) | refine Run.seq ?_ | refine Run.reg ?_ | refine Run.block ?_ | refine Run.blk ?_ | refine Run.skip ?_))
    refine Ops.lit [.slice (some ⟨b1, 0, none⟩) 4 4, .slice (some ⟨b2, 0, none⟩) 4 4] rfl rfl fun b3 => ?_
    (repeat (first | (apply Ops.q; rfl; rfl) | (apply Ops.gyB; rfl; rfl) | (apply Ops.gnB; rfl; decide) | (apply Ops.add; rfl; rfl; (constructor <;> omega)) | (apply Ops.sub; rfl; rfl; (constructor <;> omega)) | (apply Ops.rem; rfl; rfl; omega; omega) | (apply Ops.quo; rfl; rfl; (constructor <;> omega); omega) | (apply Ops.ld; rfl; (first | exact m0 | exact m1 | exact m2 | exact m3 | exact m4 | exact m5 | exact m6); rfl) | (apply Ops.st0; rfl; rfl; rfl; rfl; (first | exact u0 | exact u1 | exact u2 | exact u3 | exact u4 | exact u5); focus (simp; done)) | refine Ops.nil ?_ | refine Segs.nil ?_ | (apply Segs.oneS; rfl) | refine Run.seq ?_ | refine Run.reg ?_ | refine Run.block ?_ | refine Run.blk ?_ | refine Run.skip ?_))
    refine Ops.call1 rfl .nil (fun F' e kn => (rec_Pack _ [le4 n2, le4 n3] F' (rdBB_mk0 (kn _ _ m0) (.cons (le4_rdB (kn _ _ m2)) (.cons (le4_rdB (kn _ _ m1)) .nil)) rfl) (by simp) (by simp [le4_len])).openS) ?_
    rintro v1 G1 ⟨a8, c8, rfl, hG1⟩
    obtain ⟨hn8, hrow1⟩ := hG1.row
    (repeat (first | (apply Ops.q; rfl; rfl) | (apply Ops.gyB; rfl; rfl) | (apply Ops.gnB; rfl; decide) | (apply Ops.add; rfl; rfl; (constructor <;> omega)) | (apply Ops.sub; rfl; rfl; (constructor <;> omega)) | (apply Ops.rem; rfl; rfl; omega; omega) | (apply Ops.quo; rfl; rfl; (constructor <;> omega); omega)))
    refine Ops.lit [_, _] rfl rfl fun b9 => ?_
    (repeat (first | (apply Ops.q; rfl; rfl) | (apply Ops.gyB; rfl; rfl) | (apply Ops.gnB; rfl; decide) | (apply Ops.add; rfl; rfl; (constructor <;> omega)) | (apply Ops.sub; rfl; rfl; (constructor <;> omega)) | (apply Ops.rem; rfl; rfl; omega; omega) | (apply Ops.quo; rfl; rfl; (constructor <;> omega); omega)))
    refine Ops.call1 rfl .nil (fun F' e kn => crc_Of _ [_, bt] F' (rdBB_mk0 (kn _ _ m0) (.cons (hrow1.rdB kn.tail.left) (.cons (hrb.ext e) .nil)) rfl) (by simp) (by simp [le4_len]; omega)) ?_
    rintro v1 G ⟨rfl, rfl⟩
    have hsum : crcOf [[le4 n2, le4 n3].flatten, bt].flatten = crcOf ((le4 n2 ++ le4 n3) ++ bt) := by simp
    rw [hsum]
    have hcl := crcOf_lt ((le4 n2 ++ le4 n3) ++ bt)
    generalize crcOf ((le4 n2 ++ le4 n3) ++ bt) = sum at *
    (repeat (first | (apply Ops.q; rfl; rfl) | (apply Ops.gyB; rfl; rfl) | (apply Ops.gnB; rfl; decide) | (apply Ops.add; rfl; rfl; (constructor <;> omega)) | (apply Ops.sub; rfl; rfl; (constructor <;> omega)) | (apply Ops.rem; rfl; rfl; omega; omega) | (apply Ops.quo; rfl; rfl; (constructor <;> omega); omega)))
    refine Ops.pE (v' := .int .u32 n4) rfl (by rw [wrap_u32 (by omega) (by omega)]) ?_
    (repeat (first | (apply Ops.q; rfl; rfl) | (apply Ops.gyB; rfl; rfl) | (apply Ops.gnB; rfl; decide) | (apply Ops.add; rfl; rfl; (constructor <;> omega)) | (apply Ops.sub; rfl; rfl; (constructor <;> omega)) | (apply Ops.rem; rfl; rfl; omega; omega) | (apply Ops.quo; rfl; rfl; (constructor <;> omega); omega)))
    refine Ops.nil (Segs.nil ?_)
    refine Run.conseq (H' := [DiskP d D]) (fun h q => take_sub (.cons s3 .nil) h (seps_right h (seps_tail q))) ?_
    by_cases hcr : (sum : Int) = n4
    · rw [if_pos hcr] at hnx2
      refine Run.condF (by simp [get, look, hcr]) ?_
      (repeat (first | (apply Ops.q; rfl; rfl) | (apply Ops.gyB; rfl; rfl) | (apply Ops.gnB; rfl; decide) | (apply Ops.add; rfl; rfl; (constructor <;> omega)) | (apply Ops.sub; rfl; rfl; (constructor <;> omega)) | (apply Ops.rem; rfl; rfl; omega; omega) | (apply Ops.quo; rfl; rfl; (constructor <;> omega); omega) | (apply Ops.ld; rfl; (first | exact m0 | exact m1 | exact m2 | exact m3 | exact m4 | exact m5 | exact m6); rfl) | (apply Ops.st0; rfl; rfl; rfl; rfl; (first | exact u0 | exact u1 | exact u2 | exact u3 | exact u4 | exact u5); focus (simp; done)) | refine Ops.nil ?_ | refine Segs.nil ?_ | (apply Segs.oneS; rfl) | refine Run.seq ?_ | refine Run.reg ?_ | refine Run.block ?_ | refine Run.blk ?_ | refine Run.skip ?_))
      refine Run.ret Try.func24 (rs := [.tmp 2, .tmp 3, .tmp 4]) rfl (.tmp rfl (.tmp rfl (.tmp rfl .nil))) (fun h q => q) (.inr ?_)
      rw [hnx2]
      exact ⟨a7, c4', by rw [htl]; rfl, by rw [htl]; rfl⟩
    · rw [if_neg hcr] at hnx2
      refine Run.condT (by simp [get, look, hcr]) ?_
      (repeat (first | (apply Ops.q; rfl; rfl) | (apply Ops.gyB; rfl; rfl) | (apply Ops.gnB; rfl; decide) | (apply Ops.add; rfl; rfl; (constructor <;> omega)) | (apply Ops.sub; rfl; rfl; (constructor <;> omega)) | (apply Ops.rem; rfl; rfl; omega; omega) | (apply Ops.quo; rfl; rfl; (constructor <;> omega); omega) | (apply Ops.ld; rfl; (first | exact m0 | exact m1 | exact m2 | exact m3 | exact m4 | exact m5 | exact m6); rfl) | (apply Ops.st0; rfl; rfl; rfl; rfl; (first | exact u0 | exact u1 | exact u2 | exact u3 | exact u4 | exact u5); focus (simp; done)) | refine Ops.nil ?_ | refine Segs.nil ?_ | (apply Segs.oneS; rfl) | refine Run.seq ?_ | refine Run.reg ?_ | refine Run.block ?_ | refine Run.blk ?_ | refine Run.skip ?_))
      refine Run.ret Try.func24 (rs := [.tmp 2, .tmp 3, .tmp 4]) rfl (.tmp rfl (.tmp rfl (.tmp rfl .nil))) (fun h q => q) (.inl ?_)
      rw [hnx2]
      exact ⟨rfl, rfl⟩
end Eng
end Go.Proofs.Ytbhlolmglieehaa

/- The log is written anew. -/
set_option linter.unusedSimpArgs false
set_option linter.unusedVariables false
namespace Go.Proofs.Ytbhlolmglieehaa

def total : List Bytes → Nat
  | [] => 0
  | b :: r => sectorsOf b.length + total r

theorem total_app (a b : List Bytes) : total (a ++ b) = total a + total b := by
  induction a with
  | nil => simp [total]
  | cons x a ih => simp only [List.cons_append, total, ih]; omega

theorem sectors_le {n : Nat} (h : n ≤ 4096) : sectorsOf n ≤ 66 ∧ 1 ≤ sectorsOf n := by unfold sectorsOf; omega

theorem total_le : ∀ (l : List Bytes), (∀ b ∈ l, b.length ≤ 4096) → total l ≤ 66 * l.length := by
  intro l
  induction l with
  | nil => intro _; exact Nat.le_refl _
  | cons b l ih =>
    intro h
    have h1 := ih (fun x hx => h x (.tail _ hx))
    have h2 := (sectors_le (h b (.head _))).1
    simp only [total, List.length_cons]; omega

def rw_ (L : LogS) (D : DiskS) : List Bytes → Int × LogS × DiskS
  | [] => (0, L, D)
  | b :: r => if (D.put (L.base D L.pos) (cutOf L.list.length L.epoch b)).1 = 0 then
      rw_ { L with pos := L.pos + sectorsOf b.length, list := L.list ++ [b] } (D.put (L.base D L.pos) (cutOf L.list.length L.epoch b)).2 r
    else ((D.put (L.base D L.pos) (cutOf L.list.length L.epoch b)).1, { L with dead := true }, (D.put (L.base D L.pos) (cutOf L.list.length L.epoch b)).2)

def headSect (e : Nat) : Bytes := 1 :: (le4 e ++ (le4 (crcOf (1 :: le4 e)) ++ List.replicate 55 0))

theorem headSect_len (e : Nat) : (headSect e).length = 64 := rfl

def LogS.anew (L : LogS) : LogS := { epoch := L.top + 1, top := L.top + 1, half := 1 - L.half, pos := 0, list := [], dead := L.dead }

def finish (L : LogS) (D : DiskS) : Int × DiskS := andThen D.flush fun D => andThen (D.write L.half (headSect L.epoch)) DiskS.flush

def endRw (x : Int × LogS × DiskS) : Int × LogS × DiskS :=
  if x.1 = 0 then ((finish x.2.1 x.2.2).1, { x.2.1 with dead := x.2.1.dead || decide ((finish x.2.1 x.2.2).1 ≠ 0) }, (finish x.2.1 x.2.2).2) else x

def LogS.rewrite (L : LogS) (D : DiskS) (list : List Bytes) : Int × LogS × DiskS :=
  if L.dead = true then (3, L, D) else if (∃ b ∈ list, 4096 < b.length) then (6, L, D) else if D.hf < total list then (7, L, D) else
    endRw (rw_ L.anew D list)

namespace Eng
attribute [local irreducible] Ops Segs Run Spec

set_option maxHeartbeats 1000000 in
theorem log_Rewrite (l d : Nat) (L : LogS) (D : DiskS) (ok : L.Ok D) (hc : D.cache.length + 5000 ≤ 1099511627776) (v : Value) (bss : List Bytes) (hn : bss.length ≤ 1099511627) (F : Hp) (hr : RdBB F v bss) :
    Spec Try.prog 14 [.pointer (some ⟨l, 0, none⟩), v].toArray F [LogP l d L, DiskP d D] fun v H => v = .int .i64 (L.rewrite D bss).1 ∧ H = [LogP l d (L.rewrite D bss).2.1, DiskP d (L.rewrite D bss).2.2] := by
  obtain ⟨oa, oc, rfl, hbb⟩ := hr
  have hsz := ok.disk.size
  have hhf := hf_le ok.disk
  have h6 := ok.size
  refine Spec.enter (n := 159) Try.func14 ok_log_Log_Rewrite rfl (by simp) ?_
  unfold ec_log_Log_Rewrite
  simp only [argFr, Nat.reduceAdd]
  refine Run.open_ s0 fun G ⟨a, c, vs, hh, hvl, hG⟩ => ?_
  subst hG
  simp only [List.cons_append, List.nil_append]
  have hfold : ∀ (L' : LogS) (a' : Option Addr) (c' : Nat) (vs' : List Value) (D' : DiskS), L'.half ≤ 1 → vs'.length = L'.list.length → ∀ h, seps [DiskP d D', .pt l (.cells (lcells d L' a' vs'.length c').toArray 55 (0, 0)), OwnS a' vs'.length c' 1 30 vs', RowsP vs' L'.list] h → seps [LogP l d L', DiskP d D'] h :=
    fun L' a' c' vs' D' hh hv h q => fold_grp (.cons s1 (.cons s1 (.cons s1 .nil))) ⟨a', c', vs', hh, hv, rfl⟩ h q
  (repeat (first | (apply Ops.q; rfl; rfl) | (apply Ops.gyB; rfl; rfl) | (apply Ops.gnB; rfl; decide) | (apply Ops.add; rfl; rfl; (constructor <;> omega)) | (apply Ops.sub; rfl; rfl; (constructor <;> omega)) | (apply Ops.rem; rfl; rfl; omega; omega) | (apply Ops.quo; rfl; rfl; (constructor <;> omega); omega) | (apply Ops.ld; rfl; (first | exact m0 | exact m1 | exact m2 | exact m3 | exact m4 | exact m5 | exact m6); rfl) | (apply Ops.st0; rfl; rfl; rfl; rfl; (first | exact u0 | exact u1 | exact u2 | exact u3 | exact u4 | exact u5); focus (simp; done)) | refine Ops.nil ?_ | refine Segs.nil ?_ | (apply Segs.oneS; rfl) | refine Run.seq ?_ | refine Run.reg ?_ | refine Run.block ?_ | refine Run.blk ?_ | refine Run.skip ?_))
  generalize hres : L.rewrite D bss = res at *
  unfold LogS.rewrite at hres
  by_cases hd : L.dead = true
  · rw [if_pos hd] at hres
    subst hres
    refine Run.condT (by rw [← hd]; rfl) ?_
    (repeat (first | (apply Ops.q; rfl; rfl) | (apply Ops.gyB; rfl; rfl) | (apply Ops.gnB; rfl; decide) | (apply Ops.add; rfl; rfl; (constructor <;> omega)) | (apply Ops.sub; rfl; rfl; (constructor <;> omega)) | (apply Ops.rem; rfl; rfl; omega; omega) | (apply Ops.quo; rfl; rfl; (constructor <;> omega); omega) | (apply Ops.ld; rfl; (first | exact m0 | exact m1 | exact m2 | exact m3 | exact m4 | exact m5 | exact m6); rfl) | (apply Ops.st0; rfl; rfl; rfl; rfl; (first | exact u0 | exact u1 | exact u2 | exact u3 | exact u4 | exact u5); focus (simp; done)) | refine Ops.nil ?_ | refine Segs.nil ?_ | (apply Segs.oneS; rfl) | refine Run.seq ?_ | refine Run.reg ?_ | refine Run.block ?_ | refine Run.blk ?_ | refine Run.skip ?_))
    exact Run.ret1 Try.func14 rfl rfl (fun h q => hfold L a c vs D hh hvl h (take_sub (.cons s3 (.cons s0 (.cons s0 (.cons s0 .nil)))) h q)) ⟨rfl, rfl⟩
  rw [if_neg hd] at hres
  refine Run.condF (by have : L.dead = false := by simpa using hd
                       rw [← this]; rfl) ?_
  (repeat (first | (apply Ops.q; rfl; rfl) | (apply Ops.gyB; rfl; rfl) | (apply Ops.gnB; rfl; decide) | (apply Ops.add; rfl; rfl; (constructor <;> omega)) | (apply Ops.sub; rfl; rfl; (constructor <;> omega)) | (apply Ops.rem; rfl; rfl; omega; omega) | (apply Ops.quo; rfl; rfl; (constructor <;> omega); omega) | (apply Ops.ld; rfl; (first | exact m0 | exact m1 | exact m2 | exact m3 | exact m4 | exact m5 | exact m6); rfl) | (apply Ops.st0; rfl; rfl; rfl; rfl; (first | exact u0 | exact u1 | exact u2 | exact u3 | exact u4 | exact u5); focus (simp; done)) | refine Ops.nil ?_ | refine Segs.nil ?_ | (apply Segs.oneS; rfl) | refine Run.seq ?_ | refine Run.reg ?_ | refine Run.block ?_ | refine Run.blk ?_ | refine Run.skip ?_))
  refine Run.loopI (ι := Nat) (fun x => bss.length - x) (fun x => x ≤ bss.length ∧ ∀ b ∈ bss.take x, b.length ≤ 4096)
    (fun x => [(20, .int .i64 x), (19, .int .i64 bss.length), (18, .slice oa bss.length oc), (5, .int .i64 (total (bss.take x))), (0, .pointer (some ⟨l, 0, none⟩)), (1, .slice oa bss.length oc)])
    (fun x => [.pt l (.cells (lcells d L a vs.length c).toArray 55 (0, 0)), OwnS a vs.length c 1 30 vs, RowsP vs L.list, DiskP d D])
    0 ⟨Nat.zero_le _, by simp⟩ (.cons rfl (.cons rfl (.cons rfl (.cons rfl (.cons rfl (.cons rfl .nil)))))) (fun _ h => h) ?_
  rintro i ⟨hi, hall⟩ ih
  try dsimp only at hi hall ih ⊢
  unfold ec_log_Log_Rewrite_L1
  (repeat (first | (apply Ops.q; rfl; rfl) | (apply Ops.gyB; rfl; rfl) | (apply Ops.gnB; rfl; decide) | (apply Ops.add; rfl; rfl; (constructor <;> omega)) | (apply Ops.sub; rfl; rfl; (constructor <;> omega)) | (apply Ops.rem; rfl; rfl; omega; omega) | (apply Ops.quo; rfl; rfl; (constructor <;> omega); omega) | (apply Ops.ld; rfl; (first | exact m0 | exact m1 | exact m2 | exact m3 | exact m4 | exact m5 | exact m6); rfl) | (apply Ops.st0; rfl; rfl; rfl; rfl; (first | exact u0 | exact u1 | exact u2 | exact u3 | exact u4 | exact u5); focus (simp; done)) | refine Ops.nil ?_ | refine Segs.nil ?_ | (apply Segs.oneS; rfl) | refine Run.seq ?_ | refine Run.reg ?_ | refine Run.block ?_ | refine Run.blk ?_ | refine Run.skip ?_))
  refine Run.condD rfl (fun hlt => ?_) (fun hge => ?_)
  · have hlt' : i < bss.length := by omega
    have hel : bss[i]? = some bss[i] := List.getElem?_eq_getElem hlt'
    have hmem : bss[i] ∈ bss := List.getElem_mem hlt'
    rcases hbb with hbb | ⟨ob, o, La, T, fz, rfl, hFb, hl, hrd⟩
    · rw [hbb] at hlt'; simp at hlt'
    obtain ⟨x, hx, hrx⟩ := hrd i _ hel
    have hnext : bss.take (i + 1) = bss.take i ++ [bss[i]] := by rw [List.take_succ_eq_append_getElem hlt']
    have hti : total (bss.take i) ≤ 66 * bss.length := by have := total_le _ hall; rw [List.length_take] at this; omega
    generalize bss[i] = b at *
    have ih' := ih (i + 1)
    rw [hnext, total_app] at ih'
    clear ih hnext
    generalize total (bss.take i) = n at *
    obtain ⟨xa, xc, rfl, _⟩ := id hrx
    (repeat (first | (apply Ops.q; rfl; rfl) | (apply Ops.gyB; rfl; rfl) | (apply Ops.gnB; rfl; decide) | (apply Ops.add; rfl; rfl; (constructor <;> omega)) | (apply Ops.sub; rfl; rfl; (constructor <;> omega)) | (apply Ops.rem; rfl; rfl; omega; omega) | (apply Ops.quo; rfl; rfl; (constructor <;> omega); omega) | (apply Ops.ld; rfl; (first | exact m0 | exact m1 | exact m2 | exact m3 | exact m4 | exact m5 | exact m6); rfl) | (apply Ops.st0; rfl; rfl; rfl; rfl; (first | exact u0 | exact u1 | exact u2 | exact u3 | exact u4 | exact u5); focus (simp; done)) | refine Ops.nil ?_ | refine Segs.nil ?_ | (apply Segs.oneS; rfl) | refine Run.seq ?_ | refine Run.reg ?_ | refine Run.block ?_ | refine Run.blk ?_ | refine Run.skip ?_))
    refine Ops.ixS rfl rfl ⟨by omega, by omega⟩ ?_
    refine Ops.ldF rfl hFb (by rw [Int.toNat_natCast, Nat.mul_one]; exact hx) ?_
    (repeat (first | (apply Ops.q; rfl; rfl) | (apply Ops.gyB; rfl; rfl) | (apply Ops.gnB; rfl; decide) | (apply Ops.add; rfl; rfl; (constructor <;> omega)) | (apply Ops.sub; rfl; rfl; (constructor <;> omega)) | (apply Ops.rem; rfl; rfl; omega; omega) | (apply Ops.quo; rfl; rfl; (constructor <;> omega); omega) | (apply Ops.ld; rfl; (first | exact m0 | exact m1 | exact m2 | exact m3 | exact m4 | exact m5 | exact m6); rfl) | (apply Ops.st0; rfl; rfl; rfl; rfl; (first | exact u0 | exact u1 | exact u2 | exact u3 | exact u4 | exact u5); focus (simp; done)) | refine Ops.nil ?_ | refine Segs.nil ?_ | (apply Segs.oneS; rfl) | refine Run.seq ?_ | refine Run.reg ?_ | refine Run.block ?_ | refine Run.blk ?_ | refine Run.skip ?_))
    refine Run.condD rfl (fun h4 => ?_) (fun h4 => ?_)
    · rw [if_pos ⟨b, hmem, by omega⟩] at hres
      subst hres
      (repeat (first | (apply Ops.q; rfl; rfl) | (apply Ops.gyB; rfl; rfl) | (apply Ops.gnB; rfl; decide) | (apply Ops.add; rfl; rfl; (constructor <;> omega)) | (apply Ops.sub; rfl; rfl; (constructor <;> omega)) | (apply Ops.rem; rfl; rfl; omega; omega) | (apply Ops.quo; rfl; rfl; (constructor <;> omega); omega) | (apply Ops.ld; rfl; (first | exact m0 | exact m1 | exact m2 | exact m3 | exact m4 | exact m5 | exact m6); rfl) | (apply Ops.st0; rfl; rfl; rfl; rfl; (first | exact u0 | exact u1 | exact u2 | exact u3 | exact u4 | exact u5); focus (simp; done)) | refine Ops.nil ?_ | refine Segs.nil ?_ | (apply Segs.oneS; rfl) | refine Run.seq ?_ | refine Run.reg ?_ | refine Run.block ?_ | refine Run.blk ?_ | refine Run.skip ?_))
      exact Run.ret1 Try.func14 rfl rfl (fun h q => hfold L a c vs D hh hvl h (take_sub (.cons s3 (.cons s0 (.cons s0 (.cons s0 .nil)))) h q)) ⟨rfl, rfl⟩
    have hs66 := sectors_le (show b.length ≤ 4096 by omega)
    (repeat (first | (apply Ops.q; rfl; rfl) | (apply Ops.gyB; rfl; rfl) | (apply Ops.gnB; rfl; decide) | (apply Ops.add; rfl; rfl; (constructor <;> omega)) | (apply Ops.sub; rfl; rfl; (constructor <;> omega)) | (apply Ops.rem; rfl; rfl; omega; omega) | (apply Ops.quo; rfl; rfl; (constructor <;> omega); omega) | (apply Ops.ld; rfl; (first | exact m0 | exact m1 | exact m2 | exact m3 | exact m4 | exact m5 | exact m6); rfl) | (apply Ops.st0; rfl; rfl; rfl; rfl; (first | exact u0 | exact u1 | exact u2 | exact u3 | exact u4 | exact u5); focus (simp; done)) | refine Ops.nil ?_ | refine Segs.nil ?_ | (apply Segs.oneS; rfl) | refine Run.seq ?_ | refine Run.reg ?_ | refine Run.block ?_ | refine Run.blk ?_ | refine Run.skip ?_))
    refine Ops.call1 rfl .nil (fun F' _ _ => log_sectors b.length (by omega) F') ?_
    rintro v G ⟨rfl, rfl⟩
    simp only [List.cons_append, List.nil_append]
    (repeat (first | (apply Ops.q; rfl; rfl) | (apply Ops.gyB; rfl; rfl) | (apply Ops.gnB; rfl; decide) | (apply Ops.add; rfl; rfl; (constructor <;> omega)) | (apply Ops.sub; rfl; rfl; (constructor <;> omega)) | (apply Ops.rem; rfl; rfl; omega; omega) | (apply Ops.quo; rfl; rfl; (constructor <;> omega); omega) | (apply Ops.ld; rfl; (first | exact m0 | exact m1 | exact m2 | exact m3 | exact m4 | exact m5 | exact m6); rfl) | (apply Ops.st0; rfl; rfl; rfl; rfl; (first | exact u0 | exact u1 | exact u2 | exact u3 | exact u4 | exact u5); focus (simp; done)) | refine Ops.nil ?_ | refine Segs.nil ?_ | (apply Segs.oneS; rfl) | refine Run.seq ?_ | refine Run.reg ?_ | refine Run.block ?_ | refine Run.blk ?_ | refine Run.skip ?_))
    refine Run.lp (Run.again (ih' (by omega) ⟨by omega, ?_⟩) (.cons rfl (.cons rfl (.cons rfl (.cons ?_ (.cons rfl (.cons rfl .nil)))))) (fun h q => q))
    · intro y hy
      rcases List.mem_append.1 hy with hy | hy
      · exact hall y hy
      · rw [List.mem_singleton] at hy; subst hy; omega
    · simp only [total, Nat.add_zero]; rfl
  have hie : i = bss.length := by omega
  subst hie
  rw [List.take_length] at *
  clear ih
  have hno : ¬ ∃ b ∈ bss, 4096 < b.length := by
    rintro ⟨b, hb, h4⟩
    have := hall b hb; omega
  rw [if_neg hno] at hres
  refine Run.exit rfl ?_
  (repeat (first | (apply Ops.q; rfl; rfl) | (apply Ops.gyB; rfl; rfl) | (apply Ops.gnB; rfl; decide) | (apply Ops.add; rfl; rfl; (constructor <;> omega)) | (apply Ops.sub; rfl; rfl; (constructor <;> omega)) | (apply Ops.rem; rfl; rfl; omega; omega) | (apply Ops.quo; rfl; rfl; (constructor <;> omega); omega) | (apply Ops.ld; rfl; (first | exact m0 | exact m1 | exact m2 | exact m3 | exact m4 | exact m5 | exact m6); rfl) | (apply Ops.st0; rfl; rfl; rfl; rfl; (first | exact u0 | exact u1 | exact u2 | exact u3 | exact u4 | exact u5); focus (simp; done)) | refine Ops.nil ?_ | refine Segs.nil ?_ | (apply Segs.oneS; rfl) | refine Run.seq ?_ | refine Run.reg ?_ | refine Run.block ?_ | refine Run.blk ?_ | refine Run.skip ?_))
  refine Ops.call1 rfl (.cons s3 .nil) (fun F' _ _ => log_half d D (by omega) F') ?_
  rintro v G ⟨rfl, rfl⟩
  simp only [List.cons_append, List.nil_append]
  (repeat (first | (apply Ops.q; rfl; rfl) | (apply Ops.gyB; rfl; rfl) | (apply Ops.gnB; rfl; decide) | (apply Ops.add; rfl; rfl; (constructor <;> omega)) | (apply Ops.sub; rfl; rfl; (constructor <;> omega)) | (apply Ops.rem; rfl; rfl; omega; omega) | (apply Ops.quo; rfl; rfl; (constructor <;> omega); omega) | (apply Ops.ld; rfl; (first | exact m0 | exact m1 | exact m2 | exact m3 | exact m4 | exact m5 | exact m6); rfl) | (apply Ops.st0; rfl; rfl; rfl; rfl; (first | exact u0 | exact u1 | exact u2 | exact u3 | exact u4 | exact u5); focus (simp; done)) | refine Ops.nil ?_ | refine Segs.nil ?_ | (apply Segs.oneS; rfl) | refine Run.seq ?_ | refine Run.reg ?_ | refine Run.block ?_ | refine Run.blk ?_ | refine Run.skip ?_))
  refine Run.condD rfl (fun h5 => ?_) (fun h5 => ?_)
  · rw [if_pos (by omega)] at hres
    subst hres
    (repeat (first | (apply Ops.q; rfl; rfl) | (apply Ops.gyB; rfl; rfl) | (apply Ops.gnB; rfl; decide) | (apply Ops.add; rfl; rfl; (constructor <;> omega)) | (apply Ops.sub; rfl; rfl; (constructor <;> omega)) | (apply Ops.rem; rfl; rfl; omega; omega) | (apply Ops.quo; rfl; rfl; (constructor <;> omega); omega) | (apply Ops.ld; rfl; (first | exact m0 | exact m1 | exact m2 | exact m3 | exact m4 | exact m5 | exact m6); rfl) | (apply Ops.st0; rfl; rfl; rfl; rfl; (first | exact u0 | exact u1 | exact u2 | exact u3 | exact u4 | exact u5); focus (simp; done)) | refine Ops.nil ?_ | refine Segs.nil ?_ | (apply Segs.oneS; rfl) | refine Run.seq ?_ | refine Run.reg ?_ | refine Run.block ?_ | refine Run.blk ?_ | refine Run.skip ?_))
    exact Run.ret1 Try.func14 rfl rfl (fun h q => hfold L a c vs D hh hvl h q) ⟨rfl, rfl⟩
  rw [if_neg (by omega)] at hres
  refine Run.skip ?_
  have htop := ok.top
  (repeat (first | (apply Ops.q; rfl; rfl) | (apply Ops.gyB; rfl; rfl) | (apply Ops.gnB; rfl; decide) | (apply Ops.add; rfl; rfl; (constructor <;> omega)) | (apply Ops.sub; rfl; rfl; (constructor <;> omega)) | (apply Ops.rem; rfl; rfl; omega; omega) | (apply Ops.quo; rfl; rfl; (constructor <;> omega); omega) | (apply Ops.ld; rfl; (first | exact m0 | exact m1 | exact m2 | exact m3 | exact m4 | exact m5 | exact m6); rfl) | (apply Ops.st0; rfl; rfl; rfl; rfl; (first | exact u0 | exact u1 | exact u2 | exact u3 | exact u4 | exact u5); focus (simp; done)) | refine Ops.nil ?_ | refine Segs.nil ?_ | (apply Segs.oneS; rfl) | refine Run.seq ?_ | refine Run.reg ?_ | refine Run.block ?_ | refine Run.blk ?_ | refine Run.skip ?_))
  have hhalf : (1 : Int) - (L.half : Int) = ((1 - L.half : Nat) : Int) := by omega
  rw [hhalf]
  have hd' : L.dead = false := by simpa using hd
  have hLa : L.anew.half ≤ 1 ∧ L.anew.pos = 0 ∧ L.anew.list.length = 0 ∧ L.anew.epoch ≤ 4294967291 ∧ L.anew.dead = false := ⟨by simp only [LogS.anew]; omega, rfl, rfl, by simp only [LogS.anew]; omega, hd'⟩
  refine Run.conseq (H' := [.pt l (.cells (lcells d L.anew none 0 0).toArray 55 (0, 0)), OwnS none 0 0 1 30 [], RowsP [] [], DiskP d D])
    (fun h q => take_sub (.cons s2 (.cons s0 (.cons s0 (.cons s0 .nil)))) h (own_new h (fold_grp (I := RowsI [] []) .nil .nil h (take_sub (.cons s1 (.cons s0 .nil)) h q)))) ?_
  have htb : total bss ≤ D.hf := by omega
  have hlan : L.anew.list = [] := rfl
  generalize L.anew = La at *
  refine Run.loopI (ι := Nat × LogS × DiskS × Option Addr × Nat × List Value) (fun x => bss.length - x.1)
    (fun x => x.1 ≤ bss.length ∧ x.2.1.list.length = x.1 ∧ x.2.2.2.2.2.length = x.1 ∧ x.2.1.half ≤ 1 ∧ x.2.1.epoch ≤ 4294967291 ∧ x.2.1.dead = false ∧ x.2.1.pos + total (bss.drop x.1) ≤ D.hf ∧ x.2.1.list.length ≤ x.2.1.pos ∧
      x.2.2.1.Ok ∧ x.2.2.1.kept.length = D.kept.length ∧ x.2.2.1.cache.length ≤ D.cache.length + x.2.1.pos ∧ rw_ La D bss = rw_ x.2.1 x.2.2.1 (bss.drop x.1))
    (fun x => [(70, .int .i64 x.1), (69, .int .i64 bss.length), (68, .slice oa bss.length oc), (0, .pointer (some ⟨l, 0, none⟩))])
    (fun x => [.pt l (.cells (lcells d x.2.1 x.2.2.2.1 x.1 x.2.2.2.2.1).toArray 55 (0, 0)), OwnS x.2.2.2.1 x.1 x.2.2.2.2.1 1 30 x.2.2.2.2.2, RowsP x.2.2.2.2.2 x.2.1.list, DiskP d x.2.2.1])
    (0, La, D, none, 0, []) ⟨Nat.zero_le _, hLa.2.2.1, rfl, hLa.1, hLa.2.2.2.1, hLa.2.2.2.2, by simp only [List.drop_zero]; omega, by simp only; omega, ok.disk, rfl, by simp only; omega, rfl⟩
    (.cons rfl (.cons rfl (.cons rfl (.cons rfl .nil)))) (fun h q => by simp only [hlan]; exact q) ?_
  rintro ⟨i, L', D', a', c', ws⟩ ⟨hi, hll, hwl, hh', he', hd2, htot, hlp, hok', hkl, hcl, hrw⟩ ih
  dsimp only at hi hll hwl hh' he' hd2 htot hlp hok' hkl hcl hrw ih ⊢
  unfold ec_log_Log_Rewrite_L0
  (repeat (first | (apply Ops.q; rfl; rfl) | (apply Ops.gyB; rfl; rfl) | (apply Ops.gnB; rfl; decide) | (apply Ops.add; rfl; rfl; (constructor <;> omega)) | (apply Ops.sub; rfl; rfl; (constructor <;> omega)) | (apply Ops.rem; rfl; rfl; omega; omega) | (apply Ops.quo; rfl; rfl; (constructor <;> omega); omega) | (apply Ops.ld; rfl; (first | exact m0 | exact m1 | exact m2 | exact m3 | exact m4 | exact m5 | exact m6); rfl) | (apply Ops.st0; rfl; rfl; rfl; rfl; (first | exact u0 | exact u1 | exact u2 | exact u3 | exact u4 | exact u5); focus (simp; done)) | refine Ops.nil ?_ | refine Segs.nil ?_ | (apply Segs.oneS; rfl) | refine Run.seq ?_ | refine Run.reg ?_ | refine Run.block ?_ | refine Run.blk ?_ | refine Run.skip ?_))
  refine Run.condD rfl (fun hlt => ?_) (fun hge => ?_)
  · have hlt' : i < bss.length := by omega
    have hel : bss[i]? = some bss[i] := List.getElem?_eq_getElem hlt'
    have hmem : bss[i] ∈ bss := List.getElem_mem hlt'
    have hb4 := hall _ hmem
    rcases hbb with hbb | ⟨ob, o, Lx, T, fz, rfl, hFb, hl, hrd⟩
    · rw [hbb] at hlt'; simp at hlt'
    obtain ⟨x, hx, hrx⟩ := hrd i _ hel
    have hdrop : bss.drop i = bss[i] :: bss.drop (i + 1) := List.drop_eq_getElem_cons hlt'
    generalize bss[i] = b at *
    rw [hdrop] at htot hrw
    simp only [total] at htot
    simp only [rw_] at hrw
    have ih' := fun L D a c w => ih (i + 1, L, D, a, c, w)
    dsimp only at ih'
    clear ih
    obtain ⟨xa, xc, rfl, _⟩ := id hrx
    have hs66 := sectors_le hb4
    have hf' := hf_eq hkl
    have hsz' := hok'.size
    have hcl' := cutOf_len L'.list.length L'.epoch b
    have hca := cutOf_all L'.list.length L'.epoch b
    (repeat (first | (apply Ops.q; rfl; rfl) | (apply Ops.gyB; rfl; rfl) | (apply Ops.gnB; rfl; decide) | (apply Ops.add; rfl; rfl; (constructor <;> omega)) | (apply Ops.sub; rfl; rfl; (constructor <;> omega)) | (apply Ops.rem; rfl; rfl; omega; omega) | (apply Ops.quo; rfl; rfl; (constructor <;> omega); omega) | (apply Ops.ld; rfl; (first | exact m0 | exact m1 | exact m2 | exact m3 | exact m4 | exact m5 | exact m6); rfl) | (apply Ops.st0; rfl; rfl; rfl; rfl; (first | exact u0 | exact u1 | exact u2 | exact u3 | exact u4 | exact u5); focus (simp; done)) | refine Ops.nil ?_ | refine Segs.nil ?_ | (apply Segs.oneS; rfl) | refine Run.seq ?_ | refine Run.reg ?_ | refine Run.block ?_ | refine Run.blk ?_ | refine Run.skip ?_))
    refine Ops.ixS rfl rfl ⟨by omega, by omega⟩ ?_
    refine Ops.ldF rfl hFb (by rw [Int.toNat_natCast, Nat.mul_one]; exact hx) ?_
    (repeat (first | (apply Ops.q; rfl; rfl) | (apply Ops.gyB; rfl; rfl) | (apply Ops.gnB; rfl; decide) | (apply Ops.add; rfl; rfl; (constructor <;> omega)) | (apply Ops.sub; rfl; rfl; (constructor <;> omega)) | (apply Ops.rem; rfl; rfl; omega; omega) | (apply Ops.quo; rfl; rfl; (constructor <;> omega); omega) | (apply Ops.ld; rfl; (first | exact m0 | exact m1 | exact m2 | exact m3 | exact m4 | exact m5 | exact m6); rfl) | (apply Ops.st0; rfl; rfl; rfl; rfl; (first | exact u0 | exact u1 | exact u2 | exact u3 | exact u4 | exact u5); focus (simp; done)) | refine Ops.nil ?_ | refine Segs.nil ?_ | (apply Segs.oneS; rfl) | refine Run.seq ?_ | refine Run.reg ?_ | refine Run.block ?_ | refine Run.blk ?_ | refine Run.skip ?_))
    refine Segs.lend [_] (.cons s0 .nil) fun F1 x1 k1 => ?_
    (repeat (first | (apply Ops.q; rfl; rfl) | (apply Ops.gyB; rfl; rfl) | (apply Ops.gnB; rfl; decide) | (apply Ops.add; rfl; rfl; (constructor <;> omega)) | (apply Ops.sub; rfl; rfl; (constructor <;> omega)) | (apply Ops.rem; rfl; rfl; omega; omega) | (apply Ops.quo; rfl; rfl; (constructor <;> omega); omega) | (apply Ops.ld; rfl; (first | exact m0 | exact m1 | exact m2 | exact m3 | exact m4 | exact m5 | exact m6); rfl) | (apply Ops.st0; rfl; rfl; rfl; rfl; (first | exact u0 | exact u1 | exact u2 | exact u3 | exact u4 | exact u5); focus (simp; done)) | refine Ops.nil ?_ | refine Segs.nil ?_ | (apply Segs.oneS; rfl) | refine Run.seq ?_ | refine Run.reg ?_ | refine Run.block ?_ | refine Run.blk ?_ | refine Run.skip ?_))
    refine Ops.ldF rfl (k1 _ _ m0) rfl ?_
    refine Ops.call1 rfl .nil (fun F' e kn => log_cut l d L' a' i c' (by omega) i (by omega) _ b (by omega) F' ((hrx.ext x1).ext e) (e _ _ (k1 _ _ m0))) ?_
    rintro v G ⟨o2, rfl, rfl⟩
    simp only [List.cons_append, List.nil_append]
    rw [← hll, ← hcl']
    generalize cutOf L'.list.length L'.epoch b = ss at *
    refine Ops.nil (Segs.oneS rfl ?_)
    refine Ops.call1 rfl (.cons s4 .nil) (fun F' e kn => log_put l d L' a' i c' D' hok' (by omega) hh' L'.pos (by omega) _ ss (by omega) F' (rdS_cells (kn _ _ m1) hca rfl (Nat.le_refl _)) (by rw [← hll]; exact kn _ _ m0)) ?_
    rintro v G ⟨rfl, rfl⟩
    simp only [List.cons_append, List.nil_append]
    have hp2 := DiskS.put_spec ss D' (L'.base D' L'.pos) hok' hca (by omega)
    generalize D'.put (L'.base D' L'.pos) ss = r at *
    (repeat (first | (apply Ops.q; rfl; rfl) | (apply Ops.gyB; rfl; rfl) | (apply Ops.gnB; rfl; decide) | (apply Ops.add; rfl; rfl; (constructor <;> omega)) | (apply Ops.sub; rfl; rfl; (constructor <;> omega)) | (apply Ops.rem; rfl; rfl; omega; omega) | (apply Ops.quo; rfl; rfl; (constructor <;> omega); omega) | (apply Ops.ld; rfl; (first | exact m0 | exact m1 | exact m2 | exact m3 | exact m4 | exact m5 | exact m6); rfl) | (apply Ops.st0; rfl; rfl; rfl; rfl; (first | exact u0 | exact u1 | exact u2 | exact u3 | exact u4 | exact u5); focus (simp; done)) | refine Ops.nil ?_ | refine Segs.nil ?_ | (apply Segs.oneS; rfl) | refine Run.seq ?_ | refine Run.reg ?_ | refine Run.block ?_ | refine Run.blk ?_ | refine Run.skip ?_))
    by_cases he : r.1 = 0
    · rw [if_pos he] at hrw
      refine Run.condF (by simp [he, get, look]) ?_
      refine Run.skip ?_
      refine Run.again (l' := [(9, .slice xa b.length xc), (70, .int .i64 L'.list.length), (69, .int .i64 bss.length), (68, .slice (some ⟨ob, o, none⟩) bss.length oc), (0, .pointer (some ⟨l, 0, none⟩))])
        (H' := [.pt l (.cells (lcells d L' a' L'.list.length c').toArray 55 (0, 0)), OwnS a' L'.list.length c' 1 30 ws, RowsP ws L'.list, DiskP d r.2]) ?_
        (.cons rfl (.cons rfl (.cons rfl (.cons rfl (.cons rfl .nil))))) (fun h q => take_sub (.cons s1 (.cons s2 (.cons s2 (.cons s0 .nil)))) h q)
      clear k1 x1 F1
      (repeat (first | (apply Ops.q; rfl; rfl) | (apply Ops.gyB; rfl; rfl) | (apply Ops.gnB; rfl; decide) | (apply Ops.add; rfl; rfl; (constructor <;> omega)) | (apply Ops.sub; rfl; rfl; (constructor <;> omega)) | (apply Ops.rem; rfl; rfl; omega; omega) | (apply Ops.quo; rfl; rfl; (constructor <;> omega); omega) | (apply Ops.ld; rfl; (first | exact m0 | exact m1 | exact m2 | exact m3 | exact m4 | exact m5 | exact m6); rfl) | (apply Ops.st0; rfl; rfl; rfl; rfl; (first | exact u0 | exact u1 | exact u2 | exact u3 | exact u4 | exact u5); focus (simp; done)) | refine Ops.nil ?_ | refine Segs.nil ?_ | (apply Segs.oneS; rfl) | refine Run.seq ?_ | refine Run.reg ?_ | refine Run.block ?_ | refine Run.blk ?_ | refine Run.skip ?_))
      refine Segs.lend [_] (.cons s0 .nil) fun F1 x1 k1 => ?_
      (repeat (first | (apply Ops.q; rfl; rfl) | (apply Ops.gyB; rfl; rfl) | (apply Ops.gnB; rfl; decide) | (apply Ops.add; rfl; rfl; (constructor <;> omega)) | (apply Ops.sub; rfl; rfl; (constructor <;> omega)) | (apply Ops.rem; rfl; rfl; omega; omega) | (apply Ops.quo; rfl; rfl; (constructor <;> omega); omega) | (apply Ops.ld; rfl; (first | exact m0 | exact m1 | exact m2 | exact m3 | exact m4 | exact m5 | exact m6); rfl) | (apply Ops.st0; rfl; rfl; rfl; rfl; (first | exact u0 | exact u1 | exact u2 | exact u3 | exact u4 | exact u5); focus (simp; done)) | refine Ops.nil ?_ | refine Segs.nil ?_ | (apply Segs.oneS; rfl) | refine Run.seq ?_ | refine Run.reg ?_ | refine Run.block ?_ | refine Run.blk ?_ | refine Run.skip ?_))
      refine Ops.ldF rfl (k1 _ _ m0) rfl ?_
      refine Ops.call1 rfl .nil (fun F' _ _ => log_sectors b.length (by omega) F') ?_
      rintro v G ⟨rfl, rfl⟩
      simp only [List.cons_append, List.nil_append]
      refine Ops.nil (Segs.oneS rfl ?_)
      (repeat (first | (apply Ops.q; rfl; rfl) | (apply Ops.gyB; rfl; rfl) | (apply Ops.gnB; rfl; decide) | (apply Ops.add; rfl; rfl; (constructor <;> omega)) | (apply Ops.sub; rfl; rfl; (constructor <;> omega)) | (apply Ops.rem; rfl; rfl; omega; omega) | (apply Ops.quo; rfl; rfl; (constructor <;> omega); omega) | (apply Ops.ld; rfl; (first | exact m0 | exact m1 | exact m2 | exact m3 | exact m4 | exact m5 | exact m6); rfl) | (apply Ops.st0; rfl; rfl; rfl; rfl; (first | exact u0 | exact u1 | exact u2 | exact u3 | exact u4 | exact u5); focus (simp; done)) | refine Ops.nil ?_ | refine Segs.nil ?_ | (apply Segs.oneS; rfl) | refine Run.seq ?_ | refine Run.reg ?_ | refine Run.block ?_ | refine Run.blk ?_ | refine Run.skip ?_))
      clear k1 x1 F1
      refine Segs.lend [_] (.cons s0 .nil) fun F1 x1 k1 => ?_
      (repeat (first | (apply Ops.q; rfl; rfl) | (apply Ops.gyB; rfl; rfl) | (apply Ops.gnB; rfl; decide) | (apply Ops.add; rfl; rfl; (constructor <;> omega)) | (apply Ops.sub; rfl; rfl; (constructor <;> omega)) | (apply Ops.rem; rfl; rfl; omega; omega) | (apply Ops.quo; rfl; rfl; (constructor <;> omega); omega) | (apply Ops.ld; rfl; (first | exact m0 | exact m1 | exact m2 | exact m3 | exact m4 | exact m5 | exact m6); rfl) | (apply Ops.st0; rfl; rfl; rfl; rfl; (first | exact u0 | exact u1 | exact u2 | exact u3 | exact u4 | exact u5); focus (simp; done)) | refine Ops.nil ?_ | refine Segs.nil ?_ | (apply Segs.oneS; rfl) | refine Run.seq ?_ | refine Run.reg ?_ | refine Run.block ?_ | refine Run.blk ?_ | refine Run.skip ?_))
      refine Ops.ldF rfl (k1 _ _ m0) rfl ?_
      refine Ops.appN (ys := bvs b) rfl rfl rfl (fun w h q f => (hrx.ext x1).shows w h q f) (bvs_one b) (by rw [bvs_len]; exact (Nat.mul_one _).symm) (by decide) (app_fit (by omega) (by decide)) fun a1 c1 => ?_
      refine Ops.lit [.slice a1 b.length c1] rfl rfl fun b1 => ?_
      refine Ops.nil (Segs.oneS rfl ?_)
      simp only [List.cons_append, List.nil_append]
      refine Ops.app (m := 1) (ys := [.slice a1 b.length c1]) rfl rfl rfl s3 (shows_pt m1 (Nat.le_refl 1) rfl) (fun v hv => by rw [List.mem_singleton] at hv; subst hv; rfl) rfl (by decide) (app_fit (by omega) (by decide)) fun a2 c2 => ?_
      (repeat (first | (apply Ops.q; rfl; rfl) | (apply Ops.gyB; rfl; rfl) | (apply Ops.gnB; rfl; decide) | (apply Ops.add; rfl; rfl; (constructor <;> omega)) | (apply Ops.sub; rfl; rfl; (constructor <;> omega)) | (apply Ops.rem; rfl; rfl; omega; omega) | (apply Ops.quo; rfl; rfl; (constructor <;> omega); omega) | (apply Ops.ld; rfl; (first | exact m0 | exact m1 | exact m2 | exact m3 | exact m4 | exact m5 | exact m6); rfl) | (apply Ops.st0; rfl; rfl; rfl; rfl; (first | exact u0 | exact u1 | exact u2 | exact u3 | exact u4 | exact u5); focus (simp; done)) | refine Ops.nil ?_ | refine Segs.nil ?_ | (apply Segs.oneS; rfl) | refine Run.seq ?_ | refine Run.reg ?_ | refine Run.block ?_ | refine Run.blk ?_ | refine Run.skip ?_))
      refine Run.lp (Run.again (ih' { L' with pos := L'.pos + sectorsOf b.length, list := L'.list ++ [b] } r.2 a2 c2 (ws ++ [.slice a1 b.length c1]) (by omega)
        ⟨by omega, by simp [hll], by simp [hwl], hh', he', hd2, by dsimp only; omega, by simp only [List.length_append, List.length_singleton]; omega, hp2.1, by omega, by dsimp only; omega, hrw⟩)
        (.cons (by rw [← hll]; rfl) (.cons rfl (.cons rfl (.cons rfl .nil)))) (fun h q => ?_))
      rw [← hll]
      exact take_sub (.cons s1 (.cons s1 (.cons s0 (.cons s0 .nil)))) h (rows_snoc h (take_sub (.cons s4 (.cons s3 (.cons s1 (.cons s0 (.cons s1 .nil))))) h q))
    · rw [if_neg he] at hrw
      rw [hrw] at hres
      unfold endRw at hres
      rw [if_neg he] at hres
      subst hres
      refine Run.condT (by simp [he, get, look]) ?_
      (repeat (first | (apply Ops.q; rfl; rfl) | (apply Ops.gyB; rfl; rfl) | (apply Ops.gnB; rfl; decide) | (apply Ops.add; rfl; rfl; (constructor <;> omega)) | (apply Ops.sub; rfl; rfl; (constructor <;> omega)) | (apply Ops.rem; rfl; rfl; omega; omega) | (apply Ops.quo; rfl; rfl; (constructor <;> omega); omega) | (apply Ops.ld; rfl; (first | exact m0 | exact m1 | exact m2 | exact m3 | exact m4 | exact m5 | exact m6); rfl) | (apply Ops.st0; rfl; rfl; rfl; rfl; (first | exact u0 | exact u1 | exact u2 | exact u3 | exact u4 | exact u5); focus (simp; done)) | refine Ops.nil ?_ | refine Segs.nil ?_ | (apply Segs.oneS; rfl) | refine Run.seq ?_ | refine Run.reg ?_ | refine Run.block ?_ | refine Run.blk ?_ | refine Run.skip ?_))
      refine Ops.call1 rfl (.cons s1 .nil) (fun F' e kn => log_die l d L' a' L'.list.length c' r.1 F') ?_
      rintro v G ⟨rfl, rfl⟩
      simp only [List.cons_append, List.nil_append]
      (repeat (first | (apply Ops.q; rfl; rfl) | (apply Ops.gyB; rfl; rfl) | (apply Ops.gnB; rfl; decide) | (apply Ops.add; rfl; rfl; (constructor <;> omega)) | (apply Ops.sub; rfl; rfl; (constructor <;> omega)) | (apply Ops.rem; rfl; rfl; omega; omega) | (apply Ops.quo; rfl; rfl; (constructor <;> omega); omega) | (apply Ops.ld; rfl; (first | exact m0 | exact m1 | exact m2 | exact m3 | exact m4 | exact m5 | exact m6); rfl) | (apply Ops.st0; rfl; rfl; rfl; rfl; (first | exact u0 | exact u1 | exact u2 | exact u3 | exact u4 | exact u5); focus (simp; done)) | refine Ops.nil ?_ | refine Segs.nil ?_ | (apply Segs.oneS; rfl) | refine Run.seq ?_ | refine Run.reg ?_ | refine Run.block ?_ | refine Run.blk ?_ | refine Run.skip ?_))
      refine Run.ret1 Try.func14 rfl rfl (fun h q => hfold { L' with dead := true } a' c' ws r.2 hh' (by rw [hwl, hll]) h ?_) ⟨rfl, rfl⟩
      have : (L'.dead || decide (r.1 ≠ 0)) = true := by simp [he]
      rw [this] at q
      rw [hwl, ← hll]
      exact take_sub (.cons s1 (.cons s0 (.cons s1 (.cons s1 .nil)))) h q
  · have hie2 : i = bss.length := by omega
    subst hie2
    rw [List.drop_length] at hrw
    simp only [rw_] at hrw
    rw [hrw] at hres
    unfold endRw at hres
    rw [if_pos rfl] at hres
    dsimp only at hres
    refine Run.exit rfl ?_
    have hcb : D'.cache.length + 100 ≤ 1099511627776 := by omega
    clear ih hrw hge htot hlp hLa
    have hsz' := hok'.size
    have hfin : finish L' D' = if D'.flush.1 = 0 then (if (D'.flush.2.write L'.half (headSect L'.epoch)).1 = 0 then (D'.flush.2.write L'.half (headSect L'.epoch)).2.flush else D'.flush.2.write L'.half (headSect L'.epoch)) else D'.flush := rfl
    generalize finish L' D' = fin at *
    have hfc := DiskS.flush_cache D'
    have hok1 := hok'.flush
    have hk1 := DiskS.flush_kept_len D'
    (repeat (first | (apply Ops.q; rfl; rfl) | (apply Ops.gyB; rfl; rfl) | (apply Ops.gnB; rfl; decide) | (apply Ops.add; rfl; rfl; (constructor <;> omega)) | (apply Ops.sub; rfl; rfl; (constructor <;> omega)) | (apply Ops.rem; rfl; rfl; omega; omega) | (apply Ops.quo; rfl; rfl; (constructor <;> omega); omega) | (apply Ops.ld; rfl; (first | exact m0 | exact m1 | exact m2 | exact m3 | exact m4 | exact m5 | exact m6); rfl) | (apply Ops.st0; rfl; rfl; rfl; rfl; (first | exact u0 | exact u1 | exact u2 | exact u3 | exact u4 | exact u5); focus (simp; done)) | refine Ops.nil ?_ | refine Segs.nil ?_ | (apply Segs.oneS; rfl) | refine Run.seq ?_ | refine Run.reg ?_ | refine Run.block ?_ | refine Run.blk ?_ | refine Run.skip ?_))
    refine Ops.call1 rfl (.cons s3 .nil) (fun F' _ _ => disk_Flush d D' F') ?_
    rintro v G ⟨rfl, rfl⟩
    simp only [List.cons_append, List.nil_append]
    generalize D'.flush = r1 at *
    (repeat (first | (apply Ops.q; rfl; rfl) | (apply Ops.gyB; rfl; rfl) | (apply Ops.gnB; rfl; decide) | (apply Ops.add; rfl; rfl; (constructor <;> omega)) | (apply Ops.sub; rfl; rfl; (constructor <;> omega)) | (apply Ops.rem; rfl; rfl; omega; omega) | (apply Ops.quo; rfl; rfl; (constructor <;> omega); omega) | (apply Ops.ld; rfl; (first | exact m0 | exact m1 | exact m2 | exact m3 | exact m4 | exact m5 | exact m6); rfl) | (apply Ops.st0; rfl; rfl; rfl; rfl; (first | exact u0 | exact u1 | exact u2 | exact u3 | exact u4 | exact u5); focus (simp; done)) | refine Ops.nil ?_ | refine Segs.nil ?_ | (apply Segs.oneS; rfl) | refine Run.seq ?_ | refine Run.reg ?_ | refine Run.block ?_ | refine Run.blk ?_ | refine Run.skip ?_))
    by_cases he1 : r1.1 = 0
    case neg =>
      rw [if_neg he1] at hfin
      subst hfin
      subst hres
      refine Run.condT (by simp [he1, get, look]) ?_
      (repeat (first | (apply Ops.q; rfl; rfl) | (apply Ops.gyB; rfl; rfl) | (apply Ops.gnB; rfl; decide) | (apply Ops.add; rfl; rfl; (constructor <;> omega)) | (apply Ops.sub; rfl; rfl; (constructor <;> omega)) | (apply Ops.rem; rfl; rfl; omega; omega) | (apply Ops.quo; rfl; rfl; (constructor <;> omega); omega) | (apply Ops.ld; rfl; (first | exact m0 | exact m1 | exact m2 | exact m3 | exact m4 | exact m5 | exact m6); rfl) | (apply Ops.st0; rfl; rfl; rfl; rfl; (first | exact u0 | exact u1 | exact u2 | exact u3 | exact u4 | exact u5); focus (simp; done)) | refine Ops.nil ?_ | refine Segs.nil ?_ | (apply Segs.oneS; rfl) | refine Run.seq ?_ | refine Run.reg ?_ | refine Run.block ?_ | refine Run.blk ?_ | refine Run.skip ?_))
      refine Ops.call1 rfl (.cons s1 .nil) (fun F' e kn => log_die l d L' a' bss.length c' fin.1 F') ?_
      rintro v G ⟨rfl, rfl⟩
      simp only [List.cons_append, List.nil_append]
      (repeat (first | (apply Ops.q; rfl; rfl) | (apply Ops.gyB; rfl; rfl) | (apply Ops.gnB; rfl; decide) | (apply Ops.add; rfl; rfl; (constructor <;> omega)) | (apply Ops.sub; rfl; rfl; (constructor <;> omega)) | (apply Ops.rem; rfl; rfl; omega; omega) | (apply Ops.quo; rfl; rfl; (constructor <;> omega); omega) | (apply Ops.ld; rfl; (first | exact m0 | exact m1 | exact m2 | exact m3 | exact m4 | exact m5 | exact m6); rfl) | (apply Ops.st0; rfl; rfl; rfl; rfl; (first | exact u0 | exact u1 | exact u2 | exact u3 | exact u4 | exact u5); focus (simp; done)) | refine Ops.nil ?_ | refine Segs.nil ?_ | (apply Segs.oneS; rfl) | refine Run.seq ?_ | refine Run.reg ?_ | refine Run.block ?_ | refine Run.blk ?_ | refine Run.skip ?_))
      refine Run.ret1 Try.func14 rfl rfl (fun h q => hfold { L' with dead := L'.dead || decide (fin.1 ≠ 0) } a' c' ws fin.2 hh' (by rw [hwl, hll]) h ?_) ⟨rfl, rfl⟩
      rw [hwl]
      exact take_sub (.cons s1 (.cons s0 (.cons s0 (.cons s0 .nil)))) h q
    rw [if_pos he1] at hfin
    refine Run.condF (by simp [he1, get, look]) ?_
    refine Run.skip ?_
    refine Run.again (l' := [(0, .pointer (some ⟨l, 0, none⟩))]) (H' := [.pt l (.cells (lcells d L' a' bss.length c').toArray 55 (0, 0)), OwnS a' bss.length c' 1 30 ws, RowsP ws L'.list, DiskP d r1.2]) ?_
      (.cons rfl .nil) (fun h q => take_sub (.cons s1 (.cons s1 (.cons s1 (.cons s0 .nil)))) h q)
    refine Run.seq (Run.reg (Segs.oneS rfl (Ops.alloc fun b12 => ?_)))
    (repeat (first | (apply Ops.q; rfl; rfl) | (apply Ops.gyB; rfl; rfl) | (apply Ops.gnB; rfl; decide) | (apply Ops.add; rfl; rfl; (constructor <;> omega)) | (apply Ops.sub; rfl; rfl; (constructor <;> omega)) | (apply Ops.rem; rfl; rfl; omega; omega) | (apply Ops.quo; rfl; rfl; (constructor <;> omega); omega) | (apply Ops.ld; rfl; (first | exact m0 | exact m1 | exact m2 | exact m3 | exact m4 | exact m5 | exact m6); rfl) | (apply Ops.st0; rfl; rfl; rfl; rfl; (first | exact u0 | exact u1 | exact u2 | exact u3 | exact u4 | exact u5); focus (simp; done)) | refine Ops.nil ?_ | refine Segs.nil ?_ | (apply Segs.oneS; rfl) | refine Run.seq ?_ | refine Run.reg ?_ | refine Run.block ?_ | refine Run.blk ?_ | refine Run.skip ?_))
    refine Ops.ixA rfl rfl ⟨by omega, by omega⟩ ?_
    refine Ops.st0 rfl rfl rfl rfl u0 (by simp [zl64_intu80]) ?_
    have hs0 : zl64_intu80.set (0 + Int.toNat 0 * 1) (Value.int .u8 1) = bvs (1 :: List.replicate 63 0) := rfl
    rw [hs0]
    (repeat (first | (apply Ops.q; rfl; rfl) | (apply Ops.gyB; rfl; rfl) | (apply Ops.gnB; rfl; decide) | (apply Ops.add; rfl; rfl; (constructor <;> omega)) | (apply Ops.sub; rfl; rfl; (constructor <;> omega)) | (apply Ops.rem; rfl; rfl; omega; omega) | (apply Ops.quo; rfl; rfl; (constructor <;> omega); omega) | (apply Ops.ld; rfl; (first | exact m0 | exact m1 | exact m2 | exact m3 | exact m4 | exact m5 | exact m6); rfl) | (apply Ops.st0; rfl; rfl; rfl; rfl; (first | exact u0 | exact u1 | exact u2 | exact u3 | exact u4 | exact u5); focus (simp; done)) | refine Ops.nil ?_ | refine Segs.nil ?_ | (apply Segs.oneS; rfl) | refine Run.seq ?_ | refine Run.reg ?_ | refine Run.block ?_ | refine Run.blk ?_ | refine Run.skip ?_))
    refine Ops.slA (l1 := 1) (h1 := 64) rfl rfl rfl (by omega) (by omega) fun a1 ha1 => ?_
    have ha1' : a1 = some ⟨b12, 1, none⟩ := by
      rcases ha1 with h | h
      · exact h
      · omega
    subst ha1'
    (repeat (first | (apply Ops.q; rfl; rfl) | (apply Ops.gyB; rfl; rfl) | (apply Ops.gnB; rfl; decide) | (apply Ops.add; rfl; rfl; (constructor <;> omega)) | (apply Ops.sub; rfl; rfl; (constructor <;> omega)) | (apply Ops.rem; rfl; rfl; omega; omega) | (apply Ops.quo; rfl; rfl; (constructor <;> omega); omega) | (apply Ops.ld; rfl; (first | exact m0 | exact m1 | exact m2 | exact m3 | exact m4 | exact m5 | exact m6); rfl) | (apply Ops.st0; rfl; rfl; rfl; rfl; (first | exact u0 | exact u1 | exact u2 | exact u3 | exact u4 | exact u5); focus (simp; done)) | refine Ops.nil ?_ | refine Segs.nil ?_ | (apply Segs.oneS; rfl) | refine Run.seq ?_ | refine Run.reg ?_ | refine Run.block ?_ | refine Run.blk ?_ | refine Run.skip ?_))
    refine Ops.call1 rfl .nil (fun F' _ _ => rec_Num L'.epoch (by omega) F') ?_
    rintro v G ⟨bq, rfl, rfl⟩
    simp only [List.cons_append, List.nil_append]
    (repeat (first | (apply Ops.q; rfl; rfl) | (apply Ops.gyB; rfl; rfl) | (apply Ops.gnB; rfl; decide) | (apply Ops.add; rfl; rfl; (constructor <;> omega)) | (apply Ops.sub; rfl; rfl; (constructor <;> omega)) | (apply Ops.rem; rfl; rfl; omega; omega) | (apply Ops.quo; rfl; rfl; (constructor <;> omega); omega) | (apply Ops.ld; rfl; (first | exact m0 | exact m1 | exact m2 | exact m3 | exact m4 | exact m5 | exact m6); rfl) | (apply Ops.st0; rfl; rfl; rfl; rfl; (first | exact u0 | exact u1 | exact u2 | exact u3 | exact u4 | exact u5); focus (simp; done)) | refine Ops.nil ?_ | refine Segs.nil ?_ | (apply Segs.oneS; rfl) | refine Run.seq ?_ | refine Run.reg ?_ | refine Run.block ?_ | refine Run.blk ?_ | refine Run.skip ?_))
    refine Ops.cpy (s := 1) (m := 4) (vs := bvs (le4 L'.epoch)) rfl rfl rfl (shows_pt m0 (Nat.le_refl 4) rfl) (bvs_one _) u1 (show 5 ≤ 64 by decide) ?_
    have hs1 : List.take 1 (bvs (1 :: List.replicate 63 0)) ++ bvs (le4 L'.epoch) ++ List.drop (1 + (bvs (le4 L'.epoch)).length) (bvs (1 :: List.replicate 63 0)) = bvs (1 :: (le4 L'.epoch ++ List.replicate 59 0)) := rfl
    rw [hs1]
    refine Ops.nil (Segs.nil (Run.again (l' := [(12, .pointer (some ⟨b12, 0, none⟩)), (0, .pointer (some ⟨l, 0, none⟩))])
      (H' := [.pt b12 (.cells (bvs (1 :: (le4 L'.epoch ++ List.replicate 59 0))).toArray 57 (0, 0)), .pt l (.cells (lcells d L' a' bss.length c').toArray 55 (0, 0)), OwnS a' bss.length c' 1 30 ws, RowsP ws L'.list, DiskP d r1.2]) ?_
      (.cons rfl (.cons rfl .nil)) (fun h q => take_sub (.cons s1 (.cons s1 (.cons s1 (.cons s1 (.cons s1 .nil))))) h q)))
    (repeat (first | (apply Ops.q; rfl; rfl) | (apply Ops.gyB; rfl; rfl) | (apply Ops.gnB; rfl; decide) | (apply Ops.add; rfl; rfl; (constructor <;> omega)) | (apply Ops.sub; rfl; rfl; (constructor <;> omega)) | (apply Ops.rem; rfl; rfl; omega; omega) | (apply Ops.quo; rfl; rfl; (constructor <;> omega); omega) | (apply Ops.ld; rfl; (first | exact m0 | exact m1 | exact m2 | exact m3 | exact m4 | exact m5 | exact m6); rfl) | (apply Ops.st0; rfl; rfl; rfl; rfl; (first | exact u0 | exact u1 | exact u2 | exact u3 | exact u4 | exact u5); focus (simp; done)) | refine Ops.nil ?_ | refine Segs.nil ?_ | (apply Segs.oneS; rfl) | refine Run.seq ?_ | refine Run.reg ?_ | refine Run.block ?_ | refine Run.blk ?_ | refine Run.skip ?_))
    refine Ops.slA (l1 := 5) (h1 := 64) rfl rfl rfl (by omega) (by omega) fun a1 ha1 => ?_
    have ha1' : a1 = some ⟨b12, 5, none⟩ := by
      rcases ha1 with h | h
      · exact h
      · omega
    subst ha1'
    refine Ops.slA (l1 := 0) (h1 := 5) rfl rfl rfl (by omega) (by omega) fun a2 ha2 => ?_
    refine Ops.lit [.slice a2 5 64] rfl rfl fun b9 => ?_
    (repeat (first | (apply Ops.q; rfl; rfl) | (apply Ops.gyB; rfl; rfl) | (apply Ops.gnB; rfl; decide) | (apply Ops.add; rfl; rfl; (constructor <;> omega)) | (apply Ops.sub; rfl; rfl; (constructor <;> omega)) | (apply Ops.rem; rfl; rfl; omega; omega) | (apply Ops.quo; rfl; rfl; (constructor <;> omega); omega) | (apply Ops.ld; rfl; (first | exact m0 | exact m1 | exact m2 | exact m3 | exact m4 | exact m5 | exact m6); rfl) | (apply Ops.st0; rfl; rfl; rfl; rfl; (first | exact u0 | exact u1 | exact u2 | exact u3 | exact u4 | exact u5); focus (simp; done)) | refine Ops.nil ?_ | refine Segs.nil ?_ | (apply Segs.oneS; rfl) | refine Run.seq ?_ | refine Run.reg ?_ | refine Run.block ?_ | refine Run.blk ?_ | refine Run.skip ?_))
    refine Ops.call1 rfl .nil (fun F' e kn => crc_Of _ [1 :: le4 L'.epoch] F' (rdBB_mk0 (kn _ _ m0) (.cons (rdB_at (kn _ _ m1) 5 (o := 0) (by simp [le4_len]) ha2) .nil) rfl) (by simp) (by simp [le4_len])) ?_
    rintro v G ⟨rfl, rfl⟩
    simp only [List.cons_append, List.nil_append]
    have hsum : crcOf [1 :: le4 L'.epoch].flatten = crcOf (1 :: le4 L'.epoch) := by simp
    rw [hsum]
    have hcl := crcOf_lt (1 :: le4 L'.epoch)
    have hhs : headSect L'.epoch = 1 :: (le4 L'.epoch ++ (le4 (crcOf (1 :: le4 L'.epoch)) ++ List.replicate 55 0)) := rfl
    generalize crcOf (1 :: le4 L'.epoch) = sum at *
    refine Ops.nil (Segs.oneS rfl ?_)
    refine Ops.pE (v' := .int .i64 sum) rfl (by rw [wrap_i64 (by omega) (by omega)]) ?_
    refine Ops.call1 rfl .nil (fun F' _ _ => rec_Num sum hcl F') ?_
    rintro v G ⟨bq2, rfl, rfl⟩
    simp only [List.cons_append, List.nil_append]
    (repeat (first | (apply Ops.q; rfl; rfl) | (apply Ops.gyB; rfl; rfl) | (apply Ops.gnB; rfl; decide) | (apply Ops.add; rfl; rfl; (constructor <;> omega)) | (apply Ops.sub; rfl; rfl; (constructor <;> omega)) | (apply Ops.rem; rfl; rfl; omega; omega) | (apply Ops.quo; rfl; rfl; (constructor <;> omega); omega) | (apply Ops.ld; rfl; (first | exact m0 | exact m1 | exact m2 | exact m3 | exact m4 | exact m5 | exact m6); rfl) | (apply Ops.st0; rfl; rfl; rfl; rfl; (first | exact u0 | exact u1 | exact u2 | exact u3 | exact u4 | exact u5); focus (simp; done)) | refine Ops.nil ?_ | refine Segs.nil ?_ | (apply Segs.oneS; rfl) | refine Run.seq ?_ | refine Run.reg ?_ | refine Run.block ?_ | refine Run.blk ?_ | refine Run.skip ?_))
    refine Ops.cpy (s := 1) (m := 4) (vs := bvs (le4 sum)) rfl rfl rfl (shows_pt m0 (Nat.le_refl 4) rfl) (bvs_one _) u2 (show 9 ≤ 64 by decide) ?_
    have hs2 : List.take 5 (bvs (1 :: (le4 L'.epoch ++ List.replicate 59 0))) ++ bvs (le4 sum) ++ List.drop (5 + (bvs (le4 sum)).length) (bvs (1 :: (le4 L'.epoch ++ List.replicate 59 0))) = bvs (1 :: (le4 L'.epoch ++ (le4 sum ++ List.replicate 55 0))) := rfl
    rw [hs2, ← hhs]
    have hhl := headSect_len L'.epoch
    generalize headSect L'.epoch = hs at *
    refine Ops.nil (Segs.nil (Run.again (l' := [(12, .pointer (some ⟨b12, 0, none⟩)), (0, .pointer (some ⟨l, 0, none⟩))])
      (H' := [.pt l (.cells (lcells d L' a' bss.length c').toArray 55 (0, 0)), .pt b12 (.cells (bvs hs).toArray 57 (0, 0)), OwnS a' bss.length c' 1 30 ws, RowsP ws L'.list, DiskP d r1.2]) ?_
      (.cons rfl (.cons rfl .nil)) (fun h q => take_sub (.cons s3 (.cons s2 (.cons s2 (.cons s2 (.cons s2 .nil))))) h q)))
    (repeat (first | (apply Ops.q; rfl; rfl) | (apply Ops.gyB; rfl; rfl) | (apply Ops.gnB; rfl; decide) | (apply Ops.add; rfl; rfl; (constructor <;> omega)) | (apply Ops.sub; rfl; rfl; (constructor <;> omega)) | (apply Ops.rem; rfl; rfl; omega; omega) | (apply Ops.quo; rfl; rfl; (constructor <;> omega); omega) | (apply Ops.ld; rfl; (first | exact m0 | exact m1 | exact m2 | exact m3 | exact m4 | exact m5 | exact m6); rfl) | (apply Ops.st0; rfl; rfl; rfl; rfl; (first | exact u0 | exact u1 | exact u2 | exact u3 | exact u4 | exact u5); focus (simp; done)) | refine Ops.nil ?_ | refine Segs.nil ?_ | (apply Segs.oneS; rfl) | refine Run.seq ?_ | refine Run.reg ?_ | refine Run.block ?_ | refine Run.blk ?_ | refine Run.skip ?_))
    refine Segs.lend [_, _] (.cons s0 (.cons s0 .nil)) fun F1 x1 k1 => ?_
    (repeat (first | (apply Ops.q; rfl; rfl) | (apply Ops.gyB; rfl; rfl) | (apply Ops.gnB; rfl; decide) | (apply Ops.add; rfl; rfl; (constructor <;> omega)) | (apply Ops.sub; rfl; rfl; (constructor <;> omega)) | (apply Ops.rem; rfl; rfl; omega; omega) | (apply Ops.quo; rfl; rfl; (constructor <;> omega); omega) | (apply Ops.ld; rfl; (first | exact m0 | exact m1 | exact m2 | exact m3 | exact m4 | exact m5 | exact m6); rfl) | (apply Ops.st0; rfl; rfl; rfl; rfl; (first | exact u0 | exact u1 | exact u2 | exact u3 | exact u4 | exact u5); focus (simp; done)) | refine Ops.nil ?_ | refine Segs.nil ?_ | (apply Segs.oneS; rfl) | refine Run.seq ?_ | refine Run.reg ?_ | refine Run.block ?_ | refine Run.blk ?_ | refine Run.skip ?_))
    refine Ops.ldF rfl (k1 _ _ m0) rfl ?_
    refine Ops.ldF rfl (k1 _ _ m0) rfl ?_
    refine Ops.ldnF rfl (k1 _ _ m1) (by rw [bvs_len, hhl]; exact Nat.le_refl 64) ?_
    rw [List.drop_zero, List.take_of_length_le (show (bvs hs).length ≤ 64 by rw [bvs_len, hhl]; exact Nat.le_refl 64)]
    refine Ops.nil (Segs.oneS rfl ?_)
    simp only [List.cons_append, List.nil_append]
    refine Ops.call1 rfl (.cons s4 .nil) (fun F' _ _ => disk_Write d r1.2 (by omega) _ hs hhl F') ?_
    rintro v G ⟨rfl, rfl⟩
    simp only [List.cons_append, List.nil_append]
    generalize r1.2.write (L'.half : Int) hs = r2 at *
    (repeat (first | (apply Ops.q; rfl; rfl) | (apply Ops.gyB; rfl; rfl) | (apply Ops.gnB; rfl; decide) | (apply Ops.add; rfl; rfl; (constructor <;> omega)) | (apply Ops.sub; rfl; rfl; (constructor <;> omega)) | (apply Ops.rem; rfl; rfl; omega; omega) | (apply Ops.quo; rfl; rfl; (constructor <;> omega); omega) | (apply Ops.ld; rfl; (first | exact m0 | exact m1 | exact m2 | exact m3 | exact m4 | exact m5 | exact m6); rfl) | (apply Ops.st0; rfl; rfl; rfl; rfl; (first | exact u0 | exact u1 | exact u2 | exact u3 | exact u4 | exact u5); focus (simp; done)) | refine Ops.nil ?_ | refine Segs.nil ?_ | (apply Segs.oneS; rfl) | refine Run.seq ?_ | refine Run.reg ?_ | refine Run.block ?_ | refine Run.blk ?_ | refine Run.skip ?_))
    by_cases he2 : r2.1 = 0
    · rw [if_pos he2] at hfin
      refine Run.condF (by simp [he2, get, look]) ?_
      (repeat (first | (apply Ops.q; rfl; rfl) | (apply Ops.gyB; rfl; rfl) | (apply Ops.gnB; rfl; decide) | (apply Ops.add; rfl; rfl; (constructor <;> omega)) | (apply Ops.sub; rfl; rfl; (constructor <;> omega)) | (apply Ops.rem; rfl; rfl; omega; omega) | (apply Ops.quo; rfl; rfl; (constructor <;> omega); omega) | (apply Ops.ld; rfl; (first | exact m0 | exact m1 | exact m2 | exact m3 | exact m4 | exact m5 | exact m6); rfl) | (apply Ops.st0; rfl; rfl; rfl; rfl; (first | exact u0 | exact u1 | exact u2 | exact u3 | exact u4 | exact u5); focus (simp; done)) | refine Ops.nil ?_ | refine Segs.nil ?_ | (apply Segs.oneS; rfl) | refine Run.seq ?_ | refine Run.reg ?_ | refine Run.block ?_ | refine Run.blk ?_ | refine Run.skip ?_))
      refine Ops.call1 rfl (.cons s0 .nil) (fun F' _ _ => disk_Flush d r2.2 F') ?_
      rintro v G ⟨rfl, rfl⟩
      simp only [List.cons_append, List.nil_append]
      rw [← hfin]
      subst hres
      refine Ops.call1 rfl (.cons s1 .nil) (fun F' e kn => log_die l d L' a' bss.length c' fin.1 F') ?_
      rintro v G ⟨rfl, rfl⟩
      simp only [List.cons_append, List.nil_append]
      (repeat (first | (apply Ops.q; rfl; rfl) | (apply Ops.gyB; rfl; rfl) | (apply Ops.gnB; rfl; decide) | (apply Ops.add; rfl; rfl; (constructor <;> omega)) | (apply Ops.sub; rfl; rfl; (constructor <;> omega)) | (apply Ops.rem; rfl; rfl; omega; omega) | (apply Ops.quo; rfl; rfl; (constructor <;> omega); omega) | (apply Ops.ld; rfl; (first | exact m0 | exact m1 | exact m2 | exact m3 | exact m4 | exact m5 | exact m6); rfl) | (apply Ops.st0; rfl; rfl; rfl; rfl; (first | exact u0 | exact u1 | exact u2 | exact u3 | exact u4 | exact u5); focus (simp; done)) | refine Ops.nil ?_ | refine Segs.nil ?_ | (apply Segs.oneS; rfl) | refine Run.seq ?_ | refine Run.reg ?_ | refine Run.block ?_ | refine Run.blk ?_ | refine Run.skip ?_))
      refine Run.ret1 Try.func14 rfl rfl (fun h q => hfold { L' with dead := L'.dead || decide (fin.1 ≠ 0) } a' c' ws fin.2 hh' (by rw [hwl, hll]) h ?_) ⟨rfl, rfl⟩
      rw [hwl]
      exact take_sub (.cons s1 (.cons s0 (.cons s1 (.cons s1 .nil)))) h q
    · rw [if_neg he2] at hfin
      subst hfin
      subst hres
      refine Run.condT (by simp [he2, get, look]) ?_
      (repeat (first | (apply Ops.q; rfl; rfl) | (apply Ops.gyB; rfl; rfl) | (apply Ops.gnB; rfl; decide) | (apply Ops.add; rfl; rfl; (constructor <;> omega)) | (apply Ops.sub; rfl; rfl; (constructor <;> omega)) | (apply Ops.rem; rfl; rfl; omega; omega) | (apply Ops.quo; rfl; rfl; (constructor <;> omega); omega) | (apply Ops.ld; rfl; (first | exact m0 | exact m1 | exact m2 | exact m3 | exact m4 | exact m5 | exact m6); rfl) | (apply Ops.st0; rfl; rfl; rfl; rfl; (first | exact u0 | exact u1 | exact u2 | exact u3 | exact u4 | exact u5); focus (simp; done)) | refine Ops.nil ?_ | refine Segs.nil ?_ | (apply Segs.oneS; rfl) | refine Run.seq ?_ | refine Run.reg ?_ | refine Run.block ?_ | refine Run.blk ?_ | refine Run.skip ?_))
      refine Ops.call1 rfl (.cons s1 .nil) (fun F' e kn => log_die l d L' a' bss.length c' fin.1 F') ?_
      rintro v G ⟨rfl, rfl⟩
      simp only [List.cons_append, List.nil_append]
      (repeat (first | (apply Ops.q; rfl; rfl) | (apply Ops.gyB; rfl; rfl) | (apply Ops.gnB; rfl; decide) | (apply Ops.add; rfl; rfl; (constructor <;> omega)) | (apply Ops.sub; rfl; rfl; (constructor <;> omega)) | (apply Ops.rem; rfl; rfl; omega; omega) | (apply Ops.quo; rfl; rfl; (constructor <;> omega); omega) | (apply Ops.ld; rfl; (first | exact m0 | exact m1 | exact m2 | exact m3 | exact m4 | exact m5 | exact m6); rfl) | (apply Ops.st0; rfl; rfl; rfl; rfl; (first | exact u0 | exact u1 | exact u2 | exact u3 | exact u4 | exact u5); focus (simp; done)) | refine Ops.nil ?_ | refine Segs.nil ?_ | (apply Segs.oneS; rfl) | refine Run.seq ?_ | refine Run.reg ?_ | refine Run.block ?_ | refine Run.blk ?_ | refine Run.skip ?_))
      refine Run.ret1 Try.func14 rfl rfl (fun h q => hfold { L' with dead := L'.dead || decide (fin.1 ≠ 0) } a' c' ws fin.2 hh' (by rw [hwl, hll]) h ?_) ⟨rfl, rfl⟩
      rw [hwl]
      exact take_sub (.cons s1 (.cons s0 (.cons s1 (.cons s1 .nil)))) h q
end Eng
end Go.Proofs.Ytbhlolmglieehaa

/- The log that lies on a disk. -/
set_option linter.unusedSimpArgs false
set_option linter.unusedVariables false
namespace Go.Proofs.Ytbhlolmglieehaa

def mkL (e h : Nat) : LogS := ⟨e, 0, h, 0, [], false⟩

def headN (D : DiskS) : Nat → Nat → LogS → LogS
  | 0, _, L => L
  | n + 1, i, L => headN D n (i + 1) (if (goodOf (D.at_ i)).2 = true ∧ (L.epoch : Int) < (goodOf (D.at_ i)).1 then { L with epoch := (goodOf (D.at_ i)).1.toNat, half := i } else L)

def scanN : Nat → LogS → DiskS → LogS
  | 0, L, _ => L
  | n + 1, L, D => match L.next D with
    | none => L
    | some (b, k) => scanN n { L with pos := L.pos + k, list := L.list ++ [b] } D

def headS (D : DiskS) : LogS := headN D 2 0 (mkL 0 0)
def lookS (D : DiskS) : LogS := { headS D with top := lookN D (D.kept.length - 2) 2 (headS D).epoch }

def openS (D : DiskS) : Int × Option LogS × DiskS :=
  if D.kept.length < 6 then (1, none, D) else
    if (headS D).epoch = 0 then (if ((lookS D).rewrite D []).1 = 0 then (0, some ((lookS D).rewrite D []).2.1, ((lookS D).rewrite D []).2.2) else (((lookS D).rewrite D []).1, none, ((lookS D).rewrite D []).2.2))
    else (0, some (scanN (D.hf + 1) (lookS D) D), D)

theorem goodOf_range (s : Bytes) : 0 ≤ (goodOf s).1 ∧ (goodOf s).1 ≤ 2147483648 := by
  unfold goodOf
  split
  · exact ⟨by decide, by decide⟩
  · exact Rd.num_range (by omega) _

theorem next_some {L : LogS} {D : DiskS} {b : Bytes} {k : Nat} (h : L.next D = some (b, k)) : 1 ≤ k ∧ L.pos + k ≤ D.hf := by
  unfold LogS.next at h
  split at h
  · cases h
  · dsimp only at h
    split at h
    · split at h
      · cases h
      · split at h
        · split at h
          · split at h
            · cases h
            · split at h
              · cases h
              · split at h
                · simp only [Option.some.injEq, Prod.mk.injEq] at h
                  obtain ⟨_, rfl⟩ := h
                  refine ⟨?_, by omega⟩
                  unfold sectorsOf; omega
                · cases h
          · cases h
        · cases h
    · cases h

namespace Eng
theorem rows_snocR {vs : List Value} {bss : List Bytes} {b : Bytes} {v : Value} {H : List HA} : ∀ h, seps (RowsP vs bss :: RowP v b :: H) h → seps (RowsP (vs ++ [v]) (bss ++ [b]) :: H) h := by
  intro h ⟨x, y, sp, ⟨G1, h1, q1⟩, ⟨x2, y2, sp2, ⟨G2, h2, q2⟩, qr⟩⟩
  have q : seps (G1 ++ (G2 ++ H)) h := seps_append.2 ⟨x, y, sp, q1, seps_append.2 ⟨x2, y2, sp2, q2, qr⟩⟩
  rw [← List.append_assoc] at q
  obtain ⟨x3, y3, sp3, q3, qr3⟩ := seps_append.1 q
  exact ⟨x3, y3, sp3, ⟨G1 ++ G2, h1.snoc h2, q3⟩, qr3⟩

def OpenR (d : Nat) (o : Int × Option LogS × DiskS) (v : Value) (H : List HA) : Prop := match o.2.1 with
  | some L => ∃ l, v = .tuple [.pointer (some ⟨l, 0, none⟩), .int .i64 o.1].toArray ∧ H = [LogP l d L, DiskP d o.2.2]
  | none => v = .tuple [.pointer none, .int .i64 o.1].toArray ∧ H = [DiskP d o.2.2]

attribute [local irreducible] Ops Segs Run Spec

set_option maxHeartbeats 1000000 in
theorem log_Open (d : Nat) (D : DiskS) (hok : D.Ok) (hd : D.down = false) (hc : D.cache.length + 5000 ≤ 1099511627776) (F : Hp) :
    Spec Try.prog 9 [.pointer (some ⟨d, 0, none⟩)].toArray F [DiskP d D] (OpenR d (openS D)) := by
  have hsz := hok.size
  generalize hres : openS D = res at *
  unfold openS at hres
  refine Spec.enter (n := 104) Try.func9 ok_log_Open rfl (by simp) ?_
  unfold ec_log_Open
  simp only [argFr, Nat.reduceAdd]
  (repeat (first | (apply Ops.q; rfl; rfl) | (apply Ops.gyB; rfl; rfl) | (apply Ops.gnB; rfl; decide) | (apply Ops.add; rfl; rfl; (constructor <;> omega)) | (apply Ops.sub; rfl; rfl; (constructor <;> omega)) | (apply Ops.rem; rfl; rfl; omega; omega) | (apply Ops.quo; rfl; rfl; (constructor <;> omega); omega) | (apply Ops.ld; rfl; (first | exact m0 | exact m1 | exact m2 | exact m3 | exact m4 | exact m5 | exact m6); rfl) | (apply Ops.st0; rfl; rfl; rfl; rfl; (first | exact u0 | exact u1 | exact u2 | exact u3 | exact u4 | exact u5); focus (simp; done)) | refine Ops.nil ?_ | refine Segs.nil ?_ | (apply Segs.oneS; rfl) | refine Run.seq ?_ | refine Run.reg ?_ | refine Run.block ?_ | refine Run.blk ?_ | refine Run.skip ?_))
  refine Ops.call1 rfl (.cons s0 .nil) (fun F' _ _ => disk_Len d D F') ?_
  rintro v G ⟨rfl, rfl⟩
  simp only [List.cons_append, List.nil_append]
  (repeat (first | (apply Ops.q; rfl; rfl) | (apply Ops.gyB; rfl; rfl) | (apply Ops.gnB; rfl; decide) | (apply Ops.add; rfl; rfl; (constructor <;> omega)) | (apply Ops.sub; rfl; rfl; (constructor <;> omega)) | (apply Ops.rem; rfl; rfl; omega; omega) | (apply Ops.quo; rfl; rfl; (constructor <;> omega); omega) | (apply Ops.ld; rfl; (first | exact m0 | exact m1 | exact m2 | exact m3 | exact m4 | exact m5 | exact m6); rfl) | (apply Ops.st0; rfl; rfl; rfl; rfl; (first | exact u0 | exact u1 | exact u2 | exact u3 | exact u4 | exact u5); focus (simp; done)) | refine Ops.nil ?_ | refine Segs.nil ?_ | (apply Segs.oneS; rfl) | refine Run.seq ?_ | refine Run.reg ?_ | refine Run.block ?_ | refine Run.blk ?_ | refine Run.skip ?_))
  refine Run.condD rfl (fun h6 => ?_) (fun h6 => ?_)
  · rw [if_pos (by omega)] at hres
    subst hres
    (repeat (first | (apply Ops.q; rfl; rfl) | (apply Ops.gyB; rfl; rfl) | (apply Ops.gnB; rfl; decide) | (apply Ops.add; rfl; rfl; (constructor <;> omega)) | (apply Ops.sub; rfl; rfl; (constructor <;> omega)) | (apply Ops.rem; rfl; rfl; omega; omega) | (apply Ops.quo; rfl; rfl; (constructor <;> omega); omega) | (apply Ops.ld; rfl; (first | exact m0 | exact m1 | exact m2 | exact m3 | exact m4 | exact m5 | exact m6); rfl) | (apply Ops.st0; rfl; rfl; rfl; rfl; (first | exact u0 | exact u1 | exact u2 | exact u3 | exact u4 | exact u5); focus (simp; done)) | refine Ops.nil ?_ | refine Segs.nil ?_ | (apply Segs.oneS; rfl) | refine Run.seq ?_ | refine Run.reg ?_ | refine Run.block ?_ | refine Run.blk ?_ | refine Run.skip ?_))
    exact Run.ret2 Try.func9 rfl rfl rfl (fun h q => q) ⟨rfl, rfl⟩
  rw [if_neg (by omega)] at hres
  refine Run.skip ?_
  have h6' : 6 ≤ D.kept.length := by omega
  (repeat (first | (apply Ops.q; rfl; rfl) | (apply Ops.gyB; rfl; rfl) | (apply Ops.gnB; rfl; decide) | (apply Ops.add; rfl; rfl; (constructor <;> omega)) | (apply Ops.sub; rfl; rfl; (constructor <;> omega)) | (apply Ops.rem; rfl; rfl; omega; omega) | (apply Ops.quo; rfl; rfl; (constructor <;> omega); omega) | (apply Ops.ld; rfl; (first | exact m0 | exact m1 | exact m2 | exact m3 | exact m4 | exact m5 | exact m6); rfl) | (apply Ops.st0; rfl; rfl; rfl; rfl; (first | exact u0 | exact u1 | exact u2 | exact u3 | exact u4 | exact u5); focus (simp; done)) | refine Ops.nil ?_ | refine Segs.nil ?_ | (apply Segs.oneS; rfl) | refine Run.seq ?_ | refine Run.reg ?_ | refine Run.block ?_ | refine Run.blk ?_ | refine Run.skip ?_))
  refine Ops.bld (lcells d (mkL 0 0) none 0 0) rfl rfl ?_
  refine Ops.box rfl rfl fun l => ?_
  simp only [vcells]
  (repeat (first | (apply Ops.q; rfl; rfl) | (apply Ops.gyB; rfl; rfl) | (apply Ops.gnB; rfl; decide) | (apply Ops.add; rfl; rfl; (constructor <;> omega)) | (apply Ops.sub; rfl; rfl; (constructor <;> omega)) | (apply Ops.rem; rfl; rfl; omega; omega) | (apply Ops.quo; rfl; rfl; (constructor <;> omega); omega) | (apply Ops.ld; rfl; (first | exact m0 | exact m1 | exact m2 | exact m3 | exact m4 | exact m5 | exact m6); rfl) | (apply Ops.st0; rfl; rfl; rfl; rfl; (first | exact u0 | exact u1 | exact u2 | exact u3 | exact u4 | exact u5); focus (simp; done)) | refine Ops.nil ?_ | refine Segs.nil ?_ | (apply Segs.oneS; rfl) | refine Run.seq ?_ | refine Run.reg ?_ | refine Run.block ?_ | refine Run.blk ?_ | refine Run.skip ?_))
  refine Run.loopI (ι := Nat × Nat × Nat) (fun x => 2 - x.1) (fun x => x.1 ≤ 2 ∧ x.2.1 ≤ 2147483648 ∧ x.2.2 ≤ 1 ∧ headS D = headN D (2 - x.1) x.1 (mkL x.2.1 x.2.2))
    (fun x => [(21, .int .i64 x.1), (4, .pointer (some ⟨l, 0, none⟩)), (0, .pointer (some ⟨d, 0, none⟩))])
    (fun x => [.pt l (.cells (lcells d (mkL x.2.1 x.2.2) none 0 0).toArray 55 (0, 0)), DiskP d D])
    (0, 0, 0) ⟨by decide, by decide, by decide, rfl⟩ (.cons rfl (.cons rfl (.cons rfl .nil))) (fun _ h => h) ?_
  rintro ⟨i, e, hf⟩ ⟨hi, he, hhf, hh⟩ ih
  dsimp only at hi he hhf hh ih ⊢
  unfold ec_log_Open_L1
  (repeat (first | (apply Ops.q; rfl; rfl) | (apply Ops.gyB; rfl; rfl) | (apply Ops.gnB; rfl; decide) | (apply Ops.add; rfl; rfl; (constructor <;> omega)) | (apply Ops.sub; rfl; rfl; (constructor <;> omega)) | (apply Ops.rem; rfl; rfl; omega; omega) | (apply Ops.quo; rfl; rfl; (constructor <;> omega); omega) | (apply Ops.ld; rfl; (first | exact m0 | exact m1 | exact m2 | exact m3 | exact m4 | exact m5 | exact m6); rfl) | (apply Ops.st0; rfl; rfl; rfl; rfl; (first | exact u0 | exact u1 | exact u2 | exact u3 | exact u4 | exact u5); focus (simp; done)) | refine Ops.nil ?_ | refine Segs.nil ?_ | (apply Segs.oneS; rfl) | refine Run.seq ?_ | refine Run.reg ?_ | refine Run.block ?_ | refine Run.blk ?_ | refine Run.skip ?_))
  refine Run.condD rfl (fun hlt => ?_) (fun hge => ?_)
  · have hlt' : i < 2 := by omega
    have hil : i < D.kept.length := by omega
    have hlen := at_len hok hd hil
    rw [show 2 - i = (2 - (i + 1)) + 1 by omega] at hh
    simp only [headN] at hh
    have ih' := fun e h => ih (i + 1, e, h)
    dsimp only at ih'
    clear ih
    (repeat (first | (apply Ops.q; rfl; rfl) | (apply Ops.gyB; rfl; rfl) | (apply Ops.gnB; rfl; decide) | (apply Ops.add; rfl; rfl; (constructor <;> omega)) | (apply Ops.sub; rfl; rfl; (constructor <;> omega)) | (apply Ops.rem; rfl; rfl; omega; omega) | (apply Ops.quo; rfl; rfl; (constructor <;> omega); omega) | (apply Ops.ld; rfl; (first | exact m0 | exact m1 | exact m2 | exact m3 | exact m4 | exact m5 | exact m6); rfl) | (apply Ops.st0; rfl; rfl; rfl; rfl; (first | exact u0 | exact u1 | exact u2 | exact u3 | exact u4 | exact u5); focus (simp; done)) | refine Ops.nil ?_ | refine Segs.nil ?_ | (apply Segs.oneS; rfl) | refine Run.seq ?_ | refine Run.reg ?_ | refine Run.block ?_ | refine Run.blk ?_ | refine Run.skip ?_))
    refine Ops.call1 rfl (.cons s1 .nil) (fun F' _ _ => disk_Read d D _ F') ?_
    rintro v G ⟨rfl, rfl⟩
    rw [DiskS.read_at hd hil]
    simp only [List.cons_append, List.nil_append]
    generalize D.at_ i = s at *
    (repeat (first | (apply Ops.q; rfl; rfl) | (apply Ops.gyB; rfl; rfl) | (apply Ops.gnB; rfl; decide) | (apply Ops.add; rfl; rfl; (constructor <;> omega)) | (apply Ops.sub; rfl; rfl; (constructor <;> omega)) | (apply Ops.rem; rfl; rfl; omega; omega) | (apply Ops.quo; rfl; rfl; (constructor <;> omega); omega) | (apply Ops.ld; rfl; (first | exact m0 | exact m1 | exact m2 | exact m3 | exact m4 | exact m5 | exact m6); rfl) | (apply Ops.st0; rfl; rfl; rfl; rfl; (first | exact u0 | exact u1 | exact u2 | exact u3 | exact u4 | exact u5); focus (simp; done)) | refine Ops.nil ?_ | refine Segs.nil ?_ | (apply Segs.oneS; rfl) | refine Run.seq ?_ | refine Run.reg ?_ | refine Run.block ?_ | refine Run.blk ?_ | refine Run.skip ?_))
    refine Ops.alloc fun b6 => ?_
    refine Ops.stS hlen rfl rfl u0 ?_
    (repeat (first | (apply Ops.q; rfl; rfl) | (apply Ops.gyB; rfl; rfl) | (apply Ops.gnB; rfl; decide) | (apply Ops.add; rfl; rfl; (constructor <;> omega)) | (apply Ops.sub; rfl; rfl; (constructor <;> omega)) | (apply Ops.rem; rfl; rfl; omega; omega) | (apply Ops.quo; rfl; rfl; (constructor <;> omega); omega) | (apply Ops.ld; rfl; (first | exact m0 | exact m1 | exact m2 | exact m3 | exact m4 | exact m5 | exact m6); rfl) | (apply Ops.st0; rfl; rfl; rfl; rfl; (first | exact u0 | exact u1 | exact u2 | exact u3 | exact u4 | exact u5); focus (simp; done)) | refine Ops.nil ?_ | refine Segs.nil ?_ | (apply Segs.oneS; rfl) | refine Run.seq ?_ | refine Run.reg ?_ | refine Run.block ?_ | refine Run.blk ?_ | refine Run.skip ?_))
    refine Run.condF rfl ?_
    (repeat (first | (apply Ops.q; rfl; rfl) | (apply Ops.gyB; rfl; rfl) | (apply Ops.gnB; rfl; decide) | (apply Ops.add; rfl; rfl; (constructor <;> omega)) | (apply Ops.sub; rfl; rfl; (constructor <;> omega)) | (apply Ops.rem; rfl; rfl; omega; omega) | (apply Ops.quo; rfl; rfl; (constructor <;> omega); omega) | (apply Ops.ld; rfl; (first | exact m0 | exact m1 | exact m2 | exact m3 | exact m4 | exact m5 | exact m6); rfl) | (apply Ops.st0; rfl; rfl; rfl; rfl; (first | exact u0 | exact u1 | exact u2 | exact u3 | exact u4 | exact u5); focus (simp; done)) | refine Ops.nil ?_ | refine Segs.nil ?_ | (apply Segs.oneS; rfl) | refine Run.seq ?_ | refine Run.reg ?_ | refine Run.block ?_ | refine Run.blk ?_ | refine Run.skip ?_))
    refine Ops.ldn rfl m0 (by rw [bvs_len, hlen]; exact Nat.le_refl 64) ?_
    rw [List.drop_zero, List.take_of_length_le (show (bvs s).length ≤ 64 by rw [bvs_len, hlen]; exact Nat.le_refl 64)]
    refine Ops.call1 rfl .nil (fun F' _ _ => log_good _ s hlen F') ?_
    rintro v G ⟨rfl, rfl⟩
    simp only [List.nil_append]
    have hgr := goodOf_range s
    generalize goodOf s = g at *
    obtain ⟨ge, gb⟩ := g
    dsimp only at *
    (repeat (first | (apply Ops.q; rfl; rfl) | (apply Ops.gyB; rfl; rfl) | (apply Ops.gnB; rfl; decide) | (apply Ops.add; rfl; rfl; (constructor <;> omega)) | (apply Ops.sub; rfl; rfl; (constructor <;> omega)) | (apply Ops.rem; rfl; rfl; omega; omega) | (apply Ops.quo; rfl; rfl; (constructor <;> omega); omega) | (apply Ops.ld; rfl; (first | exact m0 | exact m1 | exact m2 | exact m3 | exact m4 | exact m5 | exact m6); rfl) | (apply Ops.st0; rfl; rfl; rfl; rfl; (first | exact u0 | exact u1 | exact u2 | exact u3 | exact u4 | exact u5); focus (simp; done)) | refine Ops.nil ?_ | refine Segs.nil ?_ | (apply Segs.oneS; rfl) | refine Run.seq ?_ | refine Run.reg ?_ | refine Run.block ?_ | refine Run.blk ?_ | refine Run.skip ?_))
    cases gb with
    | false =>
      rw [if_neg (by simp)] at hh
      (repeat (first | (apply Ops.q; rfl; rfl) | (apply Ops.gyB; rfl; rfl) | (apply Ops.gnB; rfl; decide) | (apply Ops.add; rfl; rfl; (constructor <;> omega)) | (apply Ops.sub; rfl; rfl; (constructor <;> omega)) | (apply Ops.rem; rfl; rfl; omega; omega) | (apply Ops.quo; rfl; rfl; (constructor <;> omega); omega) | (apply Ops.ld; rfl; (first | exact m0 | exact m1 | exact m2 | exact m3 | exact m4 | exact m5 | exact m6); rfl) | (apply Ops.st0; rfl; rfl; rfl; rfl; (first | exact u0 | exact u1 | exact u2 | exact u3 | exact u4 | exact u5); focus (simp; done)) | refine Ops.nil ?_ | refine Segs.nil ?_ | (apply Segs.oneS; rfl) | refine Run.seq ?_ | refine Run.reg ?_ | refine Run.block ?_ | refine Run.blk ?_ | refine Run.skip ?_))
      refine Run.condF rfl ?_
      (repeat (first | (apply Ops.q; rfl; rfl) | (apply Ops.gyB; rfl; rfl) | (apply Ops.gnB; rfl; decide) | (apply Ops.add; rfl; rfl; (constructor <;> omega)) | (apply Ops.sub; rfl; rfl; (constructor <;> omega)) | (apply Ops.rem; rfl; rfl; omega; omega) | (apply Ops.quo; rfl; rfl; (constructor <;> omega); omega) | (apply Ops.ld; rfl; (first | exact m0 | exact m1 | exact m2 | exact m3 | exact m4 | exact m5 | exact m6); rfl) | (apply Ops.st0; rfl; rfl; rfl; rfl; (first | exact u0 | exact u1 | exact u2 | exact u3 | exact u4 | exact u5); focus (simp; done)) | refine Ops.nil ?_ | refine Segs.nil ?_ | (apply Segs.oneS; rfl) | refine Run.seq ?_ | refine Run.reg ?_ | refine Run.block ?_ | refine Run.blk ?_ | refine Run.skip ?_))
      exact Run.lp (Run.again (ih' e hf (by omega) ⟨by omega, he, hhf, hh⟩) (.cons rfl (.cons rfl (.cons rfl .nil))) (fun h q => take_sub (.cons s2 (.cons s1 .nil)) h q))
    | true =>
      (repeat (first | (apply Ops.q; rfl; rfl) | (apply Ops.gyB; rfl; rfl) | (apply Ops.gnB; rfl; decide) | (apply Ops.add; rfl; rfl; (constructor <;> omega)) | (apply Ops.sub; rfl; rfl; (constructor <;> omega)) | (apply Ops.rem; rfl; rfl; omega; omega) | (apply Ops.quo; rfl; rfl; (constructor <;> omega); omega) | (apply Ops.ld; rfl; (first | exact m0 | exact m1 | exact m2 | exact m3 | exact m4 | exact m5 | exact m6); rfl) | (apply Ops.st0; rfl; rfl; rfl; rfl; (first | exact u0 | exact u1 | exact u2 | exact u3 | exact u4 | exact u5); focus (simp; done)) | refine Ops.nil ?_ | refine Segs.nil ?_ | (apply Segs.oneS; rfl) | refine Run.seq ?_ | refine Run.reg ?_ | refine Run.block ?_ | refine Run.blk ?_ | refine Run.skip ?_))
      refine Run.condD (p := (e : Int) < ge) rfl (fun hlt2 => ?_) (fun hge2 => ?_)
      · rw [if_pos ⟨rfl, hlt2⟩] at hh
        obtain ⟨n, rfl⟩ := Int.eq_ofNat_of_zero_le hgr.1
        simp only [Int.toNat_natCast] at hh
        (repeat (first | (apply Ops.q; rfl; rfl) | (apply Ops.gyB; rfl; rfl) | (apply Ops.gnB; rfl; decide) | (apply Ops.add; rfl; rfl; (constructor <;> omega)) | (apply Ops.sub; rfl; rfl; (constructor <;> omega)) | (apply Ops.rem; rfl; rfl; omega; omega) | (apply Ops.quo; rfl; rfl; (constructor <;> omega); omega) | (apply Ops.ld; rfl; (first | exact m0 | exact m1 | exact m2 | exact m3 | exact m4 | exact m5 | exact m6); rfl) | (apply Ops.st0; rfl; rfl; rfl; rfl; (first | exact u0 | exact u1 | exact u2 | exact u3 | exact u4 | exact u5); focus (simp; done)) | refine Ops.nil ?_ | refine Segs.nil ?_ | (apply Segs.oneS; rfl) | refine Run.seq ?_ | refine Run.reg ?_ | refine Run.block ?_ | refine Run.blk ?_ | refine Run.skip ?_))
        exact Run.lp (Run.again (ih' n i (by omega) ⟨by omega, by omega, by omega, hh⟩) (.cons rfl (.cons rfl (.cons rfl .nil))) (fun h q => take_sub (.cons s2 (.cons s1 .nil)) h q))
      · rw [if_neg (fun x => hge2 x.2)] at hh
        (repeat (first | (apply Ops.q; rfl; rfl) | (apply Ops.gyB; rfl; rfl) | (apply Ops.gnB; rfl; decide) | (apply Ops.add; rfl; rfl; (constructor <;> omega)) | (apply Ops.sub; rfl; rfl; (constructor <;> omega)) | (apply Ops.rem; rfl; rfl; omega; omega) | (apply Ops.quo; rfl; rfl; (constructor <;> omega); omega) | (apply Ops.ld; rfl; (first | exact m0 | exact m1 | exact m2 | exact m3 | exact m4 | exact m5 | exact m6); rfl) | (apply Ops.st0; rfl; rfl; rfl; rfl; (first | exact u0 | exact u1 | exact u2 | exact u3 | exact u4 | exact u5); focus (simp; done)) | refine Ops.nil ?_ | refine Segs.nil ?_ | (apply Segs.oneS; rfl) | refine Run.seq ?_ | refine Run.reg ?_ | refine Run.block ?_ | refine Run.blk ?_ | refine Run.skip ?_))
        exact Run.lp (Run.again (ih' e hf (by omega) ⟨by omega, he, hhf, hh⟩) (.cons rfl (.cons rfl (.cons rfl .nil))) (fun h q => take_sub (.cons s2 (.cons s1 .nil)) h q))
  have hi2 : i = 2 := by omega
  subst hi2
  simp only [Nat.sub_self, headN] at hh
  clear ih
  refine Run.exit rfl ?_
  (repeat (first | (apply Ops.q; rfl; rfl) | (apply Ops.gyB; rfl; rfl) | (apply Ops.gnB; rfl; decide) | (apply Ops.add; rfl; rfl; (constructor <;> omega)) | (apply Ops.sub; rfl; rfl; (constructor <;> omega)) | (apply Ops.rem; rfl; rfl; omega; omega) | (apply Ops.quo; rfl; rfl; (constructor <;> omega); omega) | (apply Ops.ld; rfl; (first | exact m0 | exact m1 | exact m2 | exact m3 | exact m4 | exact m5 | exact m6); rfl) | (apply Ops.st0; rfl; rfl; rfl; rfl; (first | exact u0 | exact u1 | exact u2 | exact u3 | exact u4 | exact u5); focus (simp; done)) | refine Ops.nil ?_ | refine Segs.nil ?_ | (apply Segs.oneS; rfl) | refine Run.seq ?_ | refine Run.reg ?_ | refine Run.block ?_ | refine Run.blk ?_ | refine Run.skip ?_))
  refine Ops.call1 rfl (.cons s0 (.cons s0 .nil)) (fun F' _ _ => log_look l d (mkL e hf) none 0 0 D hok hd F') ?_
  rintro v G ⟨rfl, rfl⟩
  simp only [List.cons_append, List.nil_append]
  have hlk : lookS D = { mkL e hf with top := lookN D (D.kept.length - 2) 2 (mkL e hf).epoch } := by unfold lookS; rw [hh]
  rw [← hlk]
  have htop : (lookS D).top ≤ 2147483648 := by rw [hlk]; exact lookN_le D (Nat.le_refl _) _ _ _ he
  have hL : (lookS D).epoch = e ∧ (lookS D).half = hf ∧ (lookS D).pos = 0 ∧ (lookS D).list = [] := by rw [hlk]; exact ⟨rfl, rfl, rfl, rfl⟩
  have hee : (headS D).epoch = e := by rw [hh]; rfl
  rw [hee] at hres
  obtain ⟨hLe, hLh, hLp, hLl⟩ := hL
  have hhfd : D.hf * 2 + 2 ≤ D.kept.length := by unfold DiskS.hf; omega
  have lok : (lookS D).Ok D := ⟨by omega, by omega, by omega, by omega, by rw [hLl, hLp]; exact Nat.le_refl 0, hok, h6'⟩
  generalize lookS D = L at *
  clear hlk hh hee
  (repeat (first | (apply Ops.q; rfl; rfl) | (apply Ops.gyB; rfl; rfl) | (apply Ops.gnB; rfl; decide) | (apply Ops.add; rfl; rfl; (constructor <;> omega)) | (apply Ops.sub; rfl; rfl; (constructor <;> omega)) | (apply Ops.rem; rfl; rfl; omega; omega) | (apply Ops.quo; rfl; rfl; (constructor <;> omega); omega) | (apply Ops.ld; rfl; (first | exact m0 | exact m1 | exact m2 | exact m3 | exact m4 | exact m5 | exact m6); rfl) | (apply Ops.st0; rfl; rfl; rfl; rfl; (first | exact u0 | exact u1 | exact u2 | exact u3 | exact u4 | exact u5); focus (simp; done)) | refine Ops.nil ?_ | refine Segs.nil ?_ | (apply Segs.oneS; rfl) | refine Run.seq ?_ | refine Run.reg ?_ | refine Run.block ?_ | refine Run.blk ?_ | refine Run.skip ?_))
  refine Run.condF rfl ?_
  (repeat (first | (apply Ops.q; rfl; rfl) | (apply Ops.gyB; rfl; rfl) | (apply Ops.gnB; rfl; decide) | (apply Ops.add; rfl; rfl; (constructor <;> omega)) | (apply Ops.sub; rfl; rfl; (constructor <;> omega)) | (apply Ops.rem; rfl; rfl; omega; omega) | (apply Ops.quo; rfl; rfl; (constructor <;> omega); omega) | (apply Ops.ld; rfl; (first | exact m0 | exact m1 | exact m2 | exact m3 | exact m4 | exact m5 | exact m6); rfl) | (apply Ops.st0; rfl; rfl; rfl; rfl; (first | exact u0 | exact u1 | exact u2 | exact u3 | exact u4 | exact u5); focus (simp; done)) | refine Ops.nil ?_ | refine Segs.nil ?_ | (apply Segs.oneS; rfl) | refine Run.seq ?_ | refine Run.reg ?_ | refine Run.block ?_ | refine Run.blk ?_ | refine Run.skip ?_))
  by_cases h0 : e = 0
  · rw [if_pos h0] at hres
    refine Run.condT (by simp [get, look, hLe, h0]) ?_
    refine Run.conseq (H' := [LogP l d L, DiskP d D]) (fun h q => ?_) ?_
    · have q2 : seps [RowsP [] L.list, OwnS none 0 0 1 30 [], .pt l (.cells (lcells d L none 0 0).toArray 55 (0, 0)), DiskP d D] h := by
        rw [hLl]; exact fold_grp (I := RowsI [] []) .nil .nil h (own_new h q)
      exact fold_grp (I := LogI l d L) (.cons s2 (.cons s1 (.cons s0 .nil))) ⟨none, 0, [], by omega, by rw [hLl]; rfl, rfl⟩ h q2
    (repeat (first | (apply Ops.q; rfl; rfl) | (apply Ops.gyB; rfl; rfl) | (apply Ops.gnB; rfl; decide) | (apply Ops.add; rfl; rfl; (constructor <;> omega)) | (apply Ops.sub; rfl; rfl; (constructor <;> omega)) | (apply Ops.rem; rfl; rfl; omega; omega) | (apply Ops.quo; rfl; rfl; (constructor <;> omega); omega) | (apply Ops.ld; rfl; (first | exact m0 | exact m1 | exact m2 | exact m3 | exact m4 | exact m5 | exact m6); rfl) | (apply Ops.st0; rfl; rfl; rfl; rfl; (first | exact u0 | exact u1 | exact u2 | exact u3 | exact u4 | exact u5); focus (simp; done)) | refine Ops.nil ?_ | refine Segs.nil ?_ | (apply Segs.oneS; rfl) | refine Run.seq ?_ | refine Run.reg ?_ | refine Run.block ?_ | refine Run.blk ?_ | refine Run.skip ?_))
    refine Ops.call1 rfl (.cons s0 (.cons s0 .nil)) (fun F' _ _ => log_Rewrite l d L D lok hc _ [] (by simp) F' ⟨none, 0, rfl, .inl rfl⟩) ?_
    rintro v G ⟨rfl, rfl⟩
    simp only [List.cons_append, List.nil_append]
    generalize L.rewrite D [] = r at *
    (repeat (first | (apply Ops.q; rfl; rfl) | (apply Ops.gyB; rfl; rfl) | (apply Ops.gnB; rfl; decide) | (apply Ops.add; rfl; rfl; (constructor <;> omega)) | (apply Ops.sub; rfl; rfl; (constructor <;> omega)) | (apply Ops.rem; rfl; rfl; omega; omega) | (apply Ops.quo; rfl; rfl; (constructor <;> omega); omega) | (apply Ops.ld; rfl; (first | exact m0 | exact m1 | exact m2 | exact m3 | exact m4 | exact m5 | exact m6); rfl) | (apply Ops.st0; rfl; rfl; rfl; rfl; (first | exact u0 | exact u1 | exact u2 | exact u3 | exact u4 | exact u5); focus (simp; done)) | refine Ops.nil ?_ | refine Segs.nil ?_ | (apply Segs.oneS; rfl) | refine Run.seq ?_ | refine Run.reg ?_ | refine Run.block ?_ | refine Run.blk ?_ | refine Run.skip ?_))
    by_cases he : r.1 = 0
    · rw [if_pos he] at hres
      subst hres
      refine Run.condF (by simp [he, get, look]) ?_
      (repeat (first | (apply Ops.q; rfl; rfl) | (apply Ops.gyB; rfl; rfl) | (apply Ops.gnB; rfl; decide) | (apply Ops.add; rfl; rfl; (constructor <;> omega)) | (apply Ops.sub; rfl; rfl; (constructor <;> omega)) | (apply Ops.rem; rfl; rfl; omega; omega) | (apply Ops.quo; rfl; rfl; (constructor <;> omega); omega) | (apply Ops.ld; rfl; (first | exact m0 | exact m1 | exact m2 | exact m3 | exact m4 | exact m5 | exact m6); rfl) | (apply Ops.st0; rfl; rfl; rfl; rfl; (first | exact u0 | exact u1 | exact u2 | exact u3 | exact u4 | exact u5); focus (simp; done)) | refine Ops.nil ?_ | refine Segs.nil ?_ | (apply Segs.oneS; rfl) | refine Run.seq ?_ | refine Run.reg ?_ | refine Run.block ?_ | refine Run.blk ?_ | refine Run.skip ?_))
      exact Run.ret2 Try.func9 rfl rfl rfl (fun h q => q) ⟨l, rfl, rfl⟩
    · rw [if_neg he] at hres
      subst hres
      refine Run.condT (by simp [he, get, look]) ?_
      (repeat (first | (apply Ops.q; rfl; rfl) | (apply Ops.gyB; rfl; rfl) | (apply Ops.gnB; rfl; decide) | (apply Ops.add; rfl; rfl; (constructor <;> omega)) | (apply Ops.sub; rfl; rfl; (constructor <;> omega)) | (apply Ops.rem; rfl; rfl; omega; omega) | (apply Ops.quo; rfl; rfl; (constructor <;> omega); omega) | (apply Ops.ld; rfl; (first | exact m0 | exact m1 | exact m2 | exact m3 | exact m4 | exact m5 | exact m6); rfl) | (apply Ops.st0; rfl; rfl; rfl; rfl; (first | exact u0 | exact u1 | exact u2 | exact u3 | exact u4 | exact u5); focus (simp; done)) | refine Ops.nil ?_ | refine Segs.nil ?_ | (apply Segs.oneS; rfl) | refine Run.seq ?_ | refine Run.reg ?_ | refine Run.block ?_ | refine Run.blk ?_ | refine Run.skip ?_))
      exact Run.ret2 Try.func9 rfl rfl rfl (fun h q => take_sub (.cons s1 .nil) h q) ⟨rfl, rfl⟩
  rw [if_neg h0] at hres
  refine Run.condF (by simp [get, look, hLe, h0]) ?_
  (repeat (first | (apply Ops.q; rfl; rfl) | (apply Ops.gyB; rfl; rfl) | (apply Ops.gnB; rfl; decide) | (apply Ops.add; rfl; rfl; (constructor <;> omega)) | (apply Ops.sub; rfl; rfl; (constructor <;> omega)) | (apply Ops.rem; rfl; rfl; omega; omega) | (apply Ops.quo; rfl; rfl; (constructor <;> omega); omega) | (apply Ops.ld; rfl; (first | exact m0 | exact m1 | exact m2 | exact m3 | exact m4 | exact m5 | exact m6); rfl) | (apply Ops.st0; rfl; rfl; rfl; rfl; (first | exact u0 | exact u1 | exact u2 | exact u3 | exact u4 | exact u5); focus (simp; done)) | refine Ops.nil ?_ | refine Segs.nil ?_ | (apply Segs.oneS; rfl) | refine Run.seq ?_ | refine Run.reg ?_ | refine Run.block ?_ | refine Run.blk ?_ | refine Run.skip ?_))
  have hhf2 := hf_le hok
  refine Run.loopI (ι := LogS × Nat × Option Addr × Nat × List Value) (fun x => D.hf + 1 - x.1.pos) (fun x => x.1.Ok D ∧ x.2.2.2.2.length = x.1.list.length ∧ D.hf < x.2.1 + x.1.pos ∧ res = (0, some (scanN x.2.1 x.1 D), D))
    (fun x => [(4, .pointer (some ⟨l, 0, none⟩))])
    (fun x => [.pt l (.cells (lcells d x.1 x.2.2.1 x.1.list.length x.2.2.2.1).toArray 55 (0, 0)), OwnS x.2.2.1 x.1.list.length x.2.2.2.1 1 30 x.2.2.2.2, RowsP x.2.2.2.2 x.1.list, DiskP d D])
    (L, D.hf + 1, none, 0, []) ⟨lok, by rw [hLl]; rfl, by simp only; omega, hres.symm⟩ (.cons rfl .nil) ?_ ?_
  · intro h q
    simp only [hLl]
    exact take_sub (.cons s2 (.cons s0 (.cons s0 (.cons s0 .nil)))) h (own_new h (fold_grp (I := RowsI [] []) .nil .nil h q))
  rintro ⟨L', fu, a, c, vs⟩ ⟨lok', hvl, hfu, hsc⟩ ih
  dsimp only at hvl hfu hsc ih lok' ⊢
  unfold ec_log_Open_L0
  have hp' := lok'.pos
  have hl' := lok'.list
  (repeat (first | (apply Ops.q; rfl; rfl) | (apply Ops.gyB; rfl; rfl) | (apply Ops.gnB; rfl; decide) | (apply Ops.add; rfl; rfl; (constructor <;> omega)) | (apply Ops.sub; rfl; rfl; (constructor <;> omega)) | (apply Ops.rem; rfl; rfl; omega; omega) | (apply Ops.quo; rfl; rfl; (constructor <;> omega); omega) | (apply Ops.ld; rfl; (first | exact m0 | exact m1 | exact m2 | exact m3 | exact m4 | exact m5 | exact m6); rfl) | (apply Ops.st0; rfl; rfl; rfl; rfl; (first | exact u0 | exact u1 | exact u2 | exact u3 | exact u4 | exact u5); focus (simp; done)) | refine Ops.nil ?_ | refine Segs.nil ?_ | (apply Segs.oneS; rfl) | refine Run.seq ?_ | refine Run.reg ?_ | refine Run.block ?_ | refine Run.blk ?_ | refine Run.skip ?_))
  refine Ops.call1 rfl (.cons s3 .nil) (fun F' e kn => log_next l d L' a c D lok' hd F' (kn _ _ m0)) ?_
  intro v G hv
  cases hnx : L'.next D with
  | none =>
    rw [hnx] at hv
    obtain ⟨rfl, rfl⟩ := hv
    simp only [List.cons_append, List.nil_append]
    (repeat (first | (apply Ops.q; rfl; rfl) | (apply Ops.gyB; rfl; rfl) | (apply Ops.gnB; rfl; decide) | (apply Ops.add; rfl; rfl; (constructor <;> omega)) | (apply Ops.sub; rfl; rfl; (constructor <;> omega)) | (apply Ops.rem; rfl; rfl; omega; omega) | (apply Ops.quo; rfl; rfl; (constructor <;> omega); omega) | (apply Ops.ld; rfl; (first | exact m0 | exact m1 | exact m2 | exact m3 | exact m4 | exact m5 | exact m6); rfl) | (apply Ops.st0; rfl; rfl; rfl; rfl; (first | exact u0 | exact u1 | exact u2 | exact u3 | exact u4 | exact u5); focus (simp; done)) | refine Ops.nil ?_ | refine Segs.nil ?_ | (apply Segs.oneS; rfl) | refine Run.seq ?_ | refine Run.reg ?_ | refine Run.block ?_ | refine Run.blk ?_ | refine Run.skip ?_))
    refine Run.condF rfl ?_
    (repeat (first | (apply Ops.q; rfl; rfl) | (apply Ops.gyB; rfl; rfl) | (apply Ops.gnB; rfl; decide) | (apply Ops.add; rfl; rfl; (constructor <;> omega)) | (apply Ops.sub; rfl; rfl; (constructor <;> omega)) | (apply Ops.rem; rfl; rfl; omega; omega) | (apply Ops.quo; rfl; rfl; (constructor <;> omega); omega) | (apply Ops.ld; rfl; (first | exact m0 | exact m1 | exact m2 | exact m3 | exact m4 | exact m5 | exact m6); rfl) | (apply Ops.st0; rfl; rfl; rfl; rfl; (first | exact u0 | exact u1 | exact u2 | exact u3 | exact u4 | exact u5); focus (simp; done)) | refine Ops.nil ?_ | refine Segs.nil ?_ | (apply Segs.oneS; rfl) | refine Run.seq ?_ | refine Run.reg ?_ | refine Run.block ?_ | refine Run.blk ?_ | refine Run.skip ?_))
    refine Run.condT rfl ?_
    (repeat (first | (apply Ops.q; rfl; rfl) | (apply Ops.gyB; rfl; rfl) | (apply Ops.gnB; rfl; decide) | (apply Ops.add; rfl; rfl; (constructor <;> omega)) | (apply Ops.sub; rfl; rfl; (constructor <;> omega)) | (apply Ops.rem; rfl; rfl; omega; omega) | (apply Ops.quo; rfl; rfl; (constructor <;> omega); omega) | (apply Ops.ld; rfl; (first | exact m0 | exact m1 | exact m2 | exact m3 | exact m4 | exact m5 | exact m6); rfl) | (apply Ops.st0; rfl; rfl; rfl; rfl; (first | exact u0 | exact u1 | exact u2 | exact u3 | exact u4 | exact u5); focus (simp; done)) | refine Ops.nil ?_ | refine Segs.nil ?_ | (apply Segs.oneS; rfl) | refine Run.seq ?_ | refine Run.reg ?_ | refine Run.block ?_ | refine Run.blk ?_ | refine Run.skip ?_))
    have hs : scanN fu L' D = L' := by
      cases fu with
      | zero => rfl
      | succ n => simp only [scanN, hnx]
    rw [hs] at hsc
    subst hsc
    refine Run.ret2 Try.func9 rfl rfl rfl (fun h q => ?_) ⟨l, rfl, rfl⟩
    rw [← hvl] at q
    exact fold_grp (I := LogI l d L') (.cons s1 (.cons s1 (.cons s1 .nil))) ⟨a, c, vs, lok'.half, hvl, rfl⟩ h q
  | some bk =>
    obtain ⟨b, k⟩ := bk
    rw [hnx] at hv
    obtain ⟨xa, xc, rfl, rfl⟩ := hv
    simp only [List.cons_append, List.nil_append]
    have hk := next_some hnx
    obtain ⟨fu, rfl⟩ : ∃ n, fu = n + 1 := ⟨fu - 1, by omega⟩
    simp only [scanN, hnx] at hsc
    (repeat (first | (apply Ops.q; rfl; rfl) | (apply Ops.gyB; rfl; rfl) | (apply Ops.gnB; rfl; decide) | (apply Ops.add; rfl; rfl; (constructor <;> omega)) | (apply Ops.sub; rfl; rfl; (constructor <;> omega)) | (apply Ops.rem; rfl; rfl; omega; omega) | (apply Ops.quo; rfl; rfl; (constructor <;> omega); omega) | (apply Ops.ld; rfl; (first | exact m0 | exact m1 | exact m2 | exact m3 | exact m4 | exact m5 | exact m6); rfl) | (apply Ops.st0; rfl; rfl; rfl; rfl; (first | exact u0 | exact u1 | exact u2 | exact u3 | exact u4 | exact u5); focus (simp; done)) | refine Ops.nil ?_ | refine Segs.nil ?_ | (apply Segs.oneS; rfl) | refine Run.seq ?_ | refine Run.reg ?_ | refine Run.block ?_ | refine Run.blk ?_ | refine Run.skip ?_))
    refine Run.condF rfl ?_
    (repeat (first | (apply Ops.q; rfl; rfl) | (apply Ops.gyB; rfl; rfl) | (apply Ops.gnB; rfl; decide) | (apply Ops.add; rfl; rfl; (constructor <;> omega)) | (apply Ops.sub; rfl; rfl; (constructor <;> omega)) | (apply Ops.rem; rfl; rfl; omega; omega) | (apply Ops.quo; rfl; rfl; (constructor <;> omega); omega) | (apply Ops.ld; rfl; (first | exact m0 | exact m1 | exact m2 | exact m3 | exact m4 | exact m5 | exact m6); rfl) | (apply Ops.st0; rfl; rfl; rfl; rfl; (first | exact u0 | exact u1 | exact u2 | exact u3 | exact u4 | exact u5); focus (simp; done)) | refine Ops.nil ?_ | refine Segs.nil ?_ | (apply Segs.oneS; rfl) | refine Run.seq ?_ | refine Run.reg ?_ | refine Run.block ?_ | refine Run.blk ?_ | refine Run.skip ?_))
    refine Run.condF (by simp [get, look]; omega) ?_
    (repeat (first | (apply Ops.q; rfl; rfl) | (apply Ops.gyB; rfl; rfl) | (apply Ops.gnB; rfl; decide) | (apply Ops.add; rfl; rfl; (constructor <;> omega)) | (apply Ops.sub; rfl; rfl; (constructor <;> omega)) | (apply Ops.rem; rfl; rfl; omega; omega) | (apply Ops.quo; rfl; rfl; (constructor <;> omega); omega) | (apply Ops.ld; rfl; (first | exact m0 | exact m1 | exact m2 | exact m3 | exact m4 | exact m5 | exact m6); rfl) | (apply Ops.st0; rfl; rfl; rfl; rfl; (first | exact u0 | exact u1 | exact u2 | exact u3 | exact u4 | exact u5); focus (simp; done)) | refine Ops.nil ?_ | refine Segs.nil ?_ | (apply Segs.oneS; rfl) | refine Run.seq ?_ | refine Run.reg ?_ | refine Run.block ?_ | refine Run.blk ?_ | refine Run.skip ?_))
    refine Segs.lend [_] (.cons s2 .nil) fun F1 x1 k1 => ?_
    (repeat (first | (apply Ops.q; rfl; rfl) | (apply Ops.gyB; rfl; rfl) | (apply Ops.gnB; rfl; decide) | (apply Ops.add; rfl; rfl; (constructor <;> omega)) | (apply Ops.sub; rfl; rfl; (constructor <;> omega)) | (apply Ops.rem; rfl; rfl; omega; omega) | (apply Ops.quo; rfl; rfl; (constructor <;> omega); omega) | (apply Ops.ld; rfl; (first | exact m0 | exact m1 | exact m2 | exact m3 | exact m4 | exact m5 | exact m6); rfl) | (apply Ops.st0; rfl; rfl; rfl; rfl; (first | exact u0 | exact u1 | exact u2 | exact u3 | exact u4 | exact u5); focus (simp; done)) | refine Ops.nil ?_ | refine Segs.nil ?_ | (apply Segs.oneS; rfl) | refine Run.seq ?_ | refine Run.reg ?_ | refine Run.block ?_ | refine Run.blk ?_ | refine Run.skip ?_))
    refine Ops.ldF rfl (k1 _ _ m0) rfl ?_
    refine Ops.ldF rfl (k1 _ _ m0) rfl ?_
    (repeat (first | (apply Ops.q; rfl; rfl) | (apply Ops.gyB; rfl; rfl) | (apply Ops.gnB; rfl; decide) | (apply Ops.add; rfl; rfl; (constructor <;> omega)) | (apply Ops.sub; rfl; rfl; (constructor <;> omega)) | (apply Ops.rem; rfl; rfl; omega; omega) | (apply Ops.quo; rfl; rfl; (constructor <;> omega); omega) | (apply Ops.ld; rfl; (first | exact m0 | exact m1 | exact m2 | exact m3 | exact m4 | exact m5 | exact m6); rfl) | (apply Ops.st0; rfl; rfl; rfl; rfl; (first | exact u0 | exact u1 | exact u2 | exact u3 | exact u4 | exact u5); focus (simp; done)) | refine Ops.nil ?_ | refine Segs.nil ?_ | (apply Segs.oneS; rfl) | refine Run.seq ?_ | refine Run.reg ?_ | refine Run.block ?_ | refine Run.blk ?_ | refine Run.skip ?_))
    refine Ops.lit [.slice xa b.length xc] rfl rfl fun b1 => ?_
    refine Ops.app (m := 1) (ys := [.slice xa b.length xc]) rfl rfl rfl s3 (shows_pt m0 (Nat.le_refl 1) rfl) (fun v hv => by rw [List.mem_singleton] at hv; subst hv; rfl) rfl (by decide) (app_fit (by omega) (by decide)) fun a2 c2 => ?_
    (repeat (first | (apply Ops.q; rfl; rfl) | (apply Ops.gyB; rfl; rfl) | (apply Ops.gnB; rfl; decide) | (apply Ops.add; rfl; rfl; (constructor <;> omega)) | (apply Ops.sub; rfl; rfl; (constructor <;> omega)) | (apply Ops.rem; rfl; rfl; omega; omega) | (apply Ops.quo; rfl; rfl; (constructor <;> omega); omega) | (apply Ops.ld; rfl; (first | exact m0 | exact m1 | exact m2 | exact m3 | exact m4 | exact m5 | exact m6); rfl) | (apply Ops.st0; rfl; rfl; rfl; rfl; (first | exact u0 | exact u1 | exact u2 | exact u3 | exact u4 | exact u5); focus (simp; done)) | refine Ops.nil ?_ | refine Segs.nil ?_ | (apply Segs.oneS; rfl) | refine Run.seq ?_ | refine Run.reg ?_ | refine Run.block ?_ | refine Run.blk ?_ | refine Run.skip ?_))
    refine Run.lp (Run.again (ih ({ L' with pos := L'.pos + k, list := L'.list ++ [b] }, fu, a2, c2, vs ++ [.slice xa b.length xc]) (by dsimp only; omega) ⟨⟨lok'.half, by dsimp only; omega, lok'.epoch, lok'.top, by simp only [List.length_append, List.length_singleton]; omega, hok, h6'⟩, by simp [hvl], by dsimp only; omega, hsc⟩) (.cons rfl .nil) (fun h q => ?_))
    have hl1 : (L'.list ++ [b]).length = L'.list.length + 1 := by simp
    dsimp only
    rw [hl1]
    exact take_sub (.cons s1 (.cons s1 (.cons s0 (.cons s0 .nil)))) h (rows_snocR h (take_sub (.cons s5 (.cons s4 (.cons s0 (.cons s0 (.cons s1 .nil))))) h q))
end Eng
end Go.Proofs.Ytbhlolmglieehaa
