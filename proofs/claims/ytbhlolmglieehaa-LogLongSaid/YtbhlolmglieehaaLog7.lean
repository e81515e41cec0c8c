/- The log's list. -/
import Derived.Test.YtbhlolmglieehaaLog6
set_option linter.unusedSimpArgs false
set_option linter.unusedVariables false
namespace Go.Proofs.Ytbhlolmglieehaa
namespace Eng

theorem Run.lendE {P : Program} {f : FuncId} {n : Nat} {F : Hp} {K : List EI} {l : Fr} {H : List HA} {R : Value → List HA → Prop} (S S' : List HA) {M : List HA} (t : Take H S M) (es : ∀ h, seps S h → seps S' h)
    (r : ∀ F', Ext F F' → Known S F' → Run P f n F' K l M (fun v H' => R v (H' ++ S'))) : Run P f n F K l H R := by
  intro K' w0 w h a i q fw fa kp
  obtain ⟨x, y, sp, qx, qy⟩ := seps_append.1 (t.sound q)
  have hb : ∀ n, x n = none ∨ F n = none := fun n => (fw.dis n).imp sp.none_left id
  have ext : Ext F (Eng.join F x) := fun n o e => by simp [Eng.join, e]
  have known : Known S (Eng.join F x) := fun n o m => by
    have := seps_mem_pt m qx
    rcases hb n with e | e
    · rw [e] at this; cases this
    · simp [Eng.join, e, this]
  refine (r (Eng.join F x) ext known K' w0 w y a i qy (fw.split sp.symm) fa kp).mono ?_
  rintro e w' ⟨v, H', h', he, r, q', k', kp'⟩
  have ⟨k2, s2⟩ := k'.unsplit hb
  exact ⟨v, _, _, he, r, seps_append.2 ⟨h', x, s2, q', es _ qx⟩, k2, kp'⟩

/-- a log in memory, with all of its blocks -/
def LogI2 (l d : Nat) (L : LogS) (G : List HA) : Prop := ∃ a c vs G1 G2, L.half ≤ 1 ∧ vs.length = L.list.length ∧ OwnI a vs.length c 1 30 vs G1 ∧ RowsI vs L.list G2 ∧
  G = .pt l (.cells (lcells d L a vs.length c).toArray 55 (0, 0)) :: (G1 ++ G2)

theorem log_deep {l d : Nat} {L : LogS} {H : List HA} : ∀ h, seps (LogP l d L :: H) h → seps (grp (LogI2 l d L) :: H) h := by
  rintro h ⟨x, y, sp, ⟨G, ⟨a, c, vs, hh, hv, rfl⟩, q⟩, qr⟩
  obtain ⟨x1, y1, sp1, hp, ⟨x2, y2, sp2, ⟨G1, h1, q1⟩, ⟨x3, y3, sp3, ⟨G2, h2, q2⟩, _⟩⟩⟩ := q
  exact ⟨x, y, sp, ⟨_, ⟨a, c, vs, G1, G2, hh, hv, h1, h2, rfl⟩, ⟨x1, y1, sp1, hp, seps_append.2 ⟨x2, y2, sp2, q1, seps_up q2 sp3.symm⟩⟩⟩, qr⟩

theorem log_shut {l d : Nat} {L : LogS} {G : List HA} (hG : LogI2 l d L G) : ∀ h, seps G h → seps [LogP l d L] h := by
  obtain ⟨a, c, vs, G1, G2, hh, hv, h1, h2, rfl⟩ := hG
  intro h ⟨x1, y1, sp1, hp, q⟩
  obtain ⟨x2, y2, sp2, q1, q2⟩ := seps_append.1 q
  refine ⟨h, noHp, (Split.empty h).symm, ⟨_, ⟨a, c, vs, hh, hv, rfl⟩, ⟨x1, y1, sp1, hp, ⟨x2, y2, sp2, ⟨G1, h1, q1⟩, ⟨y2, noHp, (Split.empty y2).symm, ⟨G2, h2, q2⟩, trivial⟩⟩⟩⟩, trivial⟩

theorem OwnI.rdBB {a : Option Addr} {n c : Nat} {T : TypeId} {vs : List Value} {G : List HA} (h : OwnI a n c 1 T vs G) {F : Hp} (k : Known G F) {bss : List Bytes} (r : RdsB F vs bss) : RdBB F (.slice a n c) bss := by
  obtain ⟨hl, h⟩ := h
  have hn : n = bss.length := by rw [r.len] at hl; omega
  rcases h with ⟨rfl, h, _, _⟩ | ⟨b, sp, rfl, hc, hcap, rfl⟩
  · exact ⟨_, c, by rw [hn], .inl (List.length_eq_zero_iff.1 (by omega))⟩
  · exact rdBB_mk (k _ _ m0) r hn

/-- a list of rows in memory -/
def LstI (v : Value) (bss : List Bytes) (G : List HA) : Prop := ∃ a c vs, v = .slice a bss.length c ∧ vs.length = bss.length ∧ G = [OwnS a bss.length c 1 30 vs, RowsP vs bss]
def LstP (v : Value) (bss : List Bytes) : HA := grp (LstI v bss)

attribute [local irreducible] Ops Segs Run Spec

theorem log_List (l d : Nat) (L : LogS) (hn : L.list.length ≤ 1099511627) (hb : ∀ b ∈ L.list, b.length ≤ 1099511627) (F : Hp) :
    Spec Try.prog 11 [.pointer (some ⟨l, 0, none⟩)].toArray F [LogP l d L] fun v H => ∃ a c, v = .slice a L.list.length c ∧ H = [LstP v L.list, LogP l d L] := by
  refine Spec.enter (n := 22) Try.func11 ok_log_Log_List rfl (by simp) ?_
  unfold ec_log_Log_List
  simp only [argFr, Nat.reduceAdd]
  refine Run.conseq log_deep (Run.open_ s0 fun G hG => Run.lendE G [LogP l d L] (take_app G []) (log_shut hG) fun F1 x1 k1 => ?_)
  obtain ⟨a, c, vs, G1, G2, hh, hvl, h1, h2, rfl⟩ := hG
  have hF := k1 _ _ m0
  have hbb := h1.rdBB k1.tail.left (h2.rds k1.tail.right)
  clear h1 h2 k1
  rw [hvl] at hbb hF
  obtain ⟨oa, oc, he, hbb⟩ := hbb
  cases he
  (repeat (first | (apply Ops.q; rfl; rfl) | (apply Ops.gyB; rfl; rfl) | (apply Ops.gnB; rfl; decide) | (apply Ops.add; rfl; rfl; (constructor <;> omega)) | (apply Ops.sub; rfl; rfl; (constructor <;> omega)) | (apply Ops.rem; rfl; rfl; omega; omega) | (apply Ops.quo; rfl; rfl; (constructor <;> omega); omega) | (apply Ops.ld; rfl; (first | exact m0 | exact m1 | exact m2 | exact m3 | exact m4 | exact m5 | exact m6); rfl) | (apply Ops.st0; rfl; rfl; rfl; rfl; (first | exact u0 | exact u1 | exact u2 | exact u3 | exact u4 | exact u5); focus (simp; done)) | refine Ops.nil ?_ | refine Segs.nil ?_ | (apply Segs.oneS; rfl) | refine Run.seq ?_ | refine Run.reg ?_ | refine Run.block ?_ | refine Run.blk ?_ | refine Run.skip ?_))
  refine Ops.ldF rfl hF rfl ?_
  (repeat (first | (apply Ops.q; rfl; rfl) | (apply Ops.gyB; rfl; rfl) | (apply Ops.gnB; rfl; decide) | (apply Ops.add; rfl; rfl; (constructor <;> omega)) | (apply Ops.sub; rfl; rfl; (constructor <;> omega)) | (apply Ops.rem; rfl; rfl; omega; omega) | (apply Ops.quo; rfl; rfl; (constructor <;> omega); omega) | (apply Ops.ld; rfl; (first | exact m0 | exact m1 | exact m2 | exact m3 | exact m4 | exact m5 | exact m6); rfl) | (apply Ops.st0; rfl; rfl; rfl; rfl; (first | exact u0 | exact u1 | exact u2 | exact u3 | exact u4 | exact u5); focus (simp; done)) | refine Ops.nil ?_ | refine Segs.nil ?_ | (apply Segs.oneS; rfl) | refine Run.seq ?_ | refine Run.reg ?_ | refine Run.block ?_ | refine Run.blk ?_ | refine Run.skip ?_))
  refine Run.loopI (ι := Nat × Option Addr × Nat × List Value) (fun x => L.list.length - x.1) (fun x => x.1 ≤ L.list.length ∧ x.2.2.2.length = x.1)
    (fun x => [(11, .int .i64 x.1), (10, .int .i64 L.list.length), (9, .slice a L.list.length c), (3, .slice x.2.1 x.1 x.2.2.1)])
    (fun x => [OwnS x.2.1 x.1 x.2.2.1 1 30 x.2.2.2, RowsP x.2.2.2 (L.list.take x.1)])
    (0, none, 0, []) ⟨Nat.zero_le _, rfl⟩ (.cons rfl (.cons rfl (.cons rfl (.cons rfl .nil)))) (fun h q => own_new h (fold_grp (I := RowsI [] []) .nil .nil h q)) ?_
  rintro ⟨i, a2, c2, ws⟩ ⟨hi, hwl⟩ ih
  dsimp only at hi hwl ih ⊢
  unfold ec_log_Log_List_L0
  (repeat (first | (apply Ops.q; rfl; rfl) | (apply Ops.gyB; rfl; rfl) | (apply Ops.gnB; rfl; decide) | (apply Ops.add; rfl; rfl; (constructor <;> omega)) | (apply Ops.sub; rfl; rfl; (constructor <;> omega)) | (apply Ops.rem; rfl; rfl; omega; omega) | (apply Ops.quo; rfl; rfl; (constructor <;> omega); omega) | (apply Ops.ld; rfl; (first | exact m0 | exact m1 | exact m2 | exact m3 | exact m4 | exact m5 | exact m6); rfl) | (apply Ops.st0; rfl; rfl; rfl; rfl; (first | exact u0 | exact u1 | exact u2 | exact u3 | exact u4 | exact u5); focus (simp; done)) | refine Ops.nil ?_ | refine Segs.nil ?_ | (apply Segs.oneS; rfl) | refine Run.seq ?_ | refine Run.reg ?_ | refine Run.block ?_ | refine Run.blk ?_ | refine Run.skip ?_))
  refine Run.condD rfl (fun hlt => ?_) (fun hge => ?_)
  · have hlt' : i < L.list.length := by omega
    have hel : L.list[i]? = some L.list[i] := List.getElem?_eq_getElem hlt'
    have hbl := hb _ (List.getElem_mem hlt')
    rcases hbb with hbb | ⟨ob, o, La, T, fz, rfl, hFb, hl, hrd⟩
    · rw [hbb] at hlt'; simp at hlt'
    obtain ⟨x, hx, hrx⟩ := hrd i _ hel
    have hnext : L.list.take (i + 1) = L.list.take i ++ [L.list[i]] := by rw [List.take_succ_eq_append_getElem hlt']
    generalize L.list[i] = b at *
    have ih' := fun a c w => ih (i + 1, a, c, w)
    dsimp only at ih'
    rw [hnext] at ih'
    clear ih hnext
    (repeat (first | (apply Ops.q; rfl; rfl) | (apply Ops.gyB; rfl; rfl) | (apply Ops.gnB; rfl; decide) | (apply Ops.add; rfl; rfl; (constructor <;> omega)) | (apply Ops.sub; rfl; rfl; (constructor <;> omega)) | (apply Ops.rem; rfl; rfl; omega; omega) | (apply Ops.quo; rfl; rfl; (constructor <;> omega); omega) | (apply Ops.ld; rfl; (first | exact m0 | exact m1 | exact m2 | exact m3 | exact m4 | exact m5 | exact m6); rfl) | (apply Ops.st0; rfl; rfl; rfl; rfl; (first | exact u0 | exact u1 | exact u2 | exact u3 | exact u4 | exact u5); focus (simp; done)) | refine Ops.nil ?_ | refine Segs.nil ?_ | (apply Segs.oneS; rfl) | refine Run.seq ?_ | refine Run.reg ?_ | refine Run.block ?_ | refine Run.blk ?_ | refine Run.skip ?_))
    refine Ops.ixS rfl rfl ⟨by omega, by omega⟩ ?_
    refine Ops.ldF rfl hFb (by rw [Int.toNat_natCast, Nat.mul_one]; exact hx) ?_
    (repeat (first | (apply Ops.q; rfl; rfl) | (apply Ops.gyB; rfl; rfl) | (apply Ops.gnB; rfl; decide) | (apply Ops.add; rfl; rfl; (constructor <;> omega)) | (apply Ops.sub; rfl; rfl; (constructor <;> omega)) | (apply Ops.rem; rfl; rfl; omega; omega) | (apply Ops.quo; rfl; rfl; (constructor <;> omega); omega) | (apply Ops.ld; rfl; (first | exact m0 | exact m1 | exact m2 | exact m3 | exact m4 | exact m5 | exact m6); rfl) | (apply Ops.st0; rfl; rfl; rfl; rfl; (first | exact u0 | exact u1 | exact u2 | exact u3 | exact u4 | exact u5); focus (simp; done)) | refine Ops.nil ?_ | refine Segs.nil ?_ | (apply Segs.oneS; rfl) | refine Run.seq ?_ | refine Run.reg ?_ | refine Run.block ?_ | refine Run.blk ?_ | refine Run.skip ?_))
    refine Ops.appN (ys := bvs b) rfl rfl hrx.len (fun w h q f => hrx.shows w h q f) (bvs_one b) (by rw [bvs_len]; exact (Nat.mul_one _).symm) (by decide) (app_fit hbl (by decide)) fun a3 c3 => ?_
    refine Ops.lit [.slice a3 b.length c3] rfl rfl fun b1 => ?_
    refine Ops.app (m := 1) (ys := [.slice a3 b.length c3]) rfl rfl rfl s2 (shows_pt m0 (Nat.le_refl 1) rfl) (fun v hv => by rw [List.mem_singleton] at hv; subst hv; rfl) rfl (by decide) (app_fit (by omega) (by decide)) fun a4 c4 => ?_
    (repeat (first | (apply Ops.q; rfl; rfl) | (apply Ops.gyB; rfl; rfl) | (apply Ops.gnB; rfl; decide) | (apply Ops.add; rfl; rfl; (constructor <;> omega)) | (apply Ops.sub; rfl; rfl; (constructor <;> omega)) | (apply Ops.rem; rfl; rfl; omega; omega) | (apply Ops.quo; rfl; rfl; (constructor <;> omega); omega) | (apply Ops.ld; rfl; (first | exact m0 | exact m1 | exact m2 | exact m3 | exact m4 | exact m5 | exact m6); rfl) | (apply Ops.st0; rfl; rfl; rfl; rfl; (first | exact u0 | exact u1 | exact u2 | exact u3 | exact u4 | exact u5); focus (simp; done)) | refine Ops.nil ?_ | refine Segs.nil ?_ | (apply Segs.oneS; rfl) | refine Run.seq ?_ | refine Run.reg ?_ | refine Run.block ?_ | refine Run.blk ?_ | refine Run.skip ?_))
    refine Run.lp (Run.again (ih' a4 c4 (ws ++ [.slice a3 b.length c3]) (by omega) ⟨by omega, by simp [hwl]⟩) (.cons rfl (.cons rfl (.cons rfl (.cons rfl .nil)))) ?_)
    exact fun h q => take_sub (.cons s1 (.cons s0 .nil)) h (rows_snoc h (take_sub (.cons s3 (.cons s2 (.cons s0 .nil))) h q))
  · have : i = L.list.length := by omega
    subst this
    rw [List.take_length]
    refine Run.exit rfl ?_
    (repeat (first | (apply Ops.q; rfl; rfl) | (apply Ops.gyB; rfl; rfl) | (apply Ops.gnB; rfl; decide) | (apply Ops.add; rfl; rfl; (constructor <;> omega)) | (apply Ops.sub; rfl; rfl; (constructor <;> omega)) | (apply Ops.rem; rfl; rfl; omega; omega) | (apply Ops.quo; rfl; rfl; (constructor <;> omega); omega) | (apply Ops.ld; rfl; (first | exact m0 | exact m1 | exact m2 | exact m3 | exact m4 | exact m5 | exact m6); rfl) | (apply Ops.st0; rfl; rfl; rfl; rfl; (first | exact u0 | exact u1 | exact u2 | exact u3 | exact u4 | exact u5); focus (simp; done)) | refine Ops.nil ?_ | refine Segs.nil ?_ | (apply Segs.oneS; rfl) | refine Run.seq ?_ | refine Run.reg ?_ | refine Run.block ?_ | refine Run.blk ?_ | refine Run.skip ?_))
    exact Run.ret1 Try.func11 rfl rfl (fun h q => fold_grp (R := []) (.cons s0 (.cons s0 .nil)) ⟨a2, c2, ws, rfl, hwl, rfl⟩ h q) ⟨a2, c2, rfl, rfl⟩
end Eng
end Go.Proofs.Ytbhlolmglieehaa
