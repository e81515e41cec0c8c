/- A volume: operations are done, and kept: the walk. -/
import Derived.Test.YtnfomoeicgdkkaaGreatDoorZ10
import Derived.Lay
import Derived.Test.YtnfomoeicgdkkaaGreatDoorRows
import Derived.Below
import Derived.ChangeSame
import Derived.OpenShut
import Derived.JoinedCond
import Derived.ProofKit
import Derived.Carry
import Derived.Lib.SmallJoins
set_option linter.unusedSimpArgs false
set_option linter.unusedVariables false
set_option maxRecDepth 1000000
namespace Go.Proofs.YtnfomoeicgdkkaaGreatDoor
namespace Eng
attribute [local irreducible] Ops Segs Run Spec

set_option maxHeartbeats 2000000 in
theorem vol_Do (v d : Nat) (V : VolS) (D : DiskS) (N : Nat) (inv : V.T.Inv) (few : V.T.Few N) (neat : V.T.Neat N) (hdead : V.dead = false) (lok : V.L.Ok D) (hc : D.cache.length + 6000 ≤ 1099511627776) (x : Value) (ops : List OpS) (hN : N + ops.length ≤ 1000000)
    (hlen : ∀ o ∈ ops, o.data.length ≤ 1099511627) (hpk : (doT V.T ops).1 = 0 → Packs ops ∧ (packOps ops).length ≤ 1000000) (F : Hp) (g : Glob F) (hx : RdOps F x ops) :
    Spec Tryz.prog 18 [ptr v, x].toArray F [VolP v d V, DiskP d D] fun u H => u = .int .i64 (V.doV D ops).1 ∧ H = [VolP v d (V.doV D ops).2.1, DiskP d (V.doV D ops).2.2] := by
  have hdo : V.doV D ops = if (doT V.T ops).1 ≠ 0 then ((doT V.T ops).1, V, D) else
    if (V.keep D (doT V.T ops).2 ops).1 ≠ 0 then ((V.keep D (doT V.T ops).2 ops).1, { V with L := (V.keep D (doT V.T ops).2 ops).2.1, dead := V.dead || decide ((V.keep D (doT V.T ops).2 ops).1 = 3) }, (V.keep D (doT V.T ops).2 ops).2.2)
    else (0, VolS.sweep { V with T := (doT V.T ops).2, L := (V.keep D (doT V.T ops).2 ops).2.1 }, (V.keep D (doT V.T ops).2 ops).2.2) := by
    unfold VolS.doV
    rw [if_neg (by rw [hdead]; simp)]
  have ok := inv.ok few
  have hT := doT_inv inv few (ops := ops) (by omega)
  have hT2 := doT_neat neat ops
  have few2 : (doT V.T ops).2.Few (N + ops.length) := few.grow hT.2 (by omega)
  have inv2 := hT.1
  have hap := LogS.append_ok lok (by omega) (2 :: packOps ops)
  have hkeep : V.keep D (doT V.T ops).2 ops = if (V.L.append D (2 :: packOps ops)).1 = 7 ∨ (V.L.append D (2 :: packOps ops)).1 = 6 then (V.L.append D (2 :: packOps ops)).2.1.rewrite (V.L.append D (2 :: packOps ops)).2.2 ((dumpT (doT V.T ops).2).map (1 :: ·)) else V.L.append D (2 :: packOps ops) := rfl
  obtain ⟨xa, xc, rfl, _⟩ := id hx
  refine Spec.enterC (n := 61) Tryz.func18 rfl (by simp) (by kernel_rfl) fun ec hc => ?_
  cbv at hc
  injection hc with hc
  subst hc
  simp only [argFr, Nat.reduceAdd]
  refine Run.open_ s0 fun G hG => ?_
  obtain ⟨t, l, r, es, ck, adr, Dp, hm, rfl⟩ := hG
  have fold : ∀ (V' : VolS) (t' : Nat) (adr' : Int → Nat) (Dq : List HA) (D' : DiskS), V'.quota = V.quota → V'.holds = V.holds →
      ∀ h, seps (volC v t' l V.quota r V'.dead :: LogP l d V'.L :: DiskP d D' :: TreeA Dq t' V'.T adr' :: .pt r (.map (List.toArray es) ck) :: Dq) h → seps [VolP v d V', DiskP d D'] h := by
    intro V' t' adr' Dq D' e1 e2 h q
    refine fold_app (I := VolI v d V') (R := [DiskP d D']) ⟨t', l, r, es, ck, adr', Dq, by rw [e2]; exact hm, rfl⟩ h ?_
    rw [e1]
    have q1 := (Take.cons s0 (.cons s2 (.cons s0 (.cons s1 (.cons s0 .nil))))).sound q
    have q2 := seps_comm (A := [volC v t' l V.quota r V'.dead, TreeA Dq t' V'.T adr', LogP l d V'.L, .pt r (.map (List.toArray es) ck), DiskP d D']) (B := Dq) h q1
    have q3 := seps_comm (A := Dq) (B := [volC v t' l V.quota r V'.dead, TreeA Dq t' V'.T adr', LogP l d V'.L, .pt r (.map (List.toArray es) ck), DiskP d D']) h q2
    have q4 : seps ([volC v t' l V.quota r V'.dead, TreeA Dq t' V'.T adr', LogP l d V'.L, .pt r (.map (List.toArray es) ck)] ++ ([DiskP d D'] ++ Dq)) h := q3
    have q5 := seps_app (A := [volC v t' l V.quota r V'.dead, TreeA Dq t' V'.T adr', LogP l d V'.L, .pt r (.map (List.toArray es) ck)]) (fun h q => q) (fun h q => seps_comm (A := [DiskP d D']) (B := Dq) h q) h q4
    simpa using q5
  refine Run.conseq (H' := TreeA Dp t V.T adr :: volC v t l V.quota r V.dead :: LogP l d V.L :: DiskP d D :: .pt r (.map (List.toArray es) ck) :: Dp) (fun h q => ?_) ?_
  · have q1 : seps ([volC v t l V.quota r V.dead, TreeA Dp t V.T adr, LogP l d V.L, .pt r (.map (List.toArray es) ck)] ++ (Dp ++ [DiskP d D])) h := by simpa using q
    have q2 := seps_app (A := [volC v t l V.quota r V.dead, TreeA Dp t V.T adr, LogP l d V.L, .pt r (.map (List.toArray es) ck)]) (fun h q => q) (fun h q => seps_comm (A := Dp) (B := [DiskP d D]) h q) h q1
    exact (Take.cons s1 (.cons s0 (.cons s0 (.cons s1 (.cons s0 .nil))))).sound q2
  refine go ?_
  refine Run.condF (by simp [get, look, hdead]) ?_
  refine go ?_
  refine Ops.call1 rfl (.cons s0 .nil) (fun F' e kn => tree_Clone Dp t V.T adr N ok F') ?_
  rintro w G ⟨u, adr1, rfl, rfl⟩
  simp only [List.cons_append, List.nil_append]
  refine go ?_
  refine Ops.call1 rfl (.cons s0 .nil) (fun F' e kn => tree_Do Dp u V.T adr1 N inv few _ ops (by omega) F' (g.ext e) (hx.ext e) hlen) ?_
  rintro w G ⟨Gn, adr2, rfl, rfl⟩
  have hdo1 := hdo
  refine go1 ?_
  refine Ops.nil (Segs.nil ?_)
  refine Run.conseq (H' := volC v t l V.quota r V.dead :: LogP l d V.L :: DiskP d D :: TreeA Dp t V.T adr :: TreeA (Gn ++ Dp) u (doT V.T ops).2 adr2 :: .pt r (.map (List.toArray es) ck) :: (Gn ++ Dp)) (fun h q => ?_) ?_
  · have q1 : seps ([TreeA (Gn ++ Dp) u (doT V.T ops).2 adr2] ++ (Gn ++ ([TreeA Dp t V.T adr, volC v t l V.quota r V.dead, LogP l d V.L, DiskP d D, .pt r (.map (List.toArray es) ck)] ++ Dp))) h := by simpa using q
    have q2 := seps_cons (fun h q => seps_mid (A := Gn) (B := [TreeA Dp t V.T adr, volC v t l V.quota r V.dead, LogP l d V.L, DiskP d D, .pt r (.map (List.toArray es) ck)]) h q) q1
    exact (Take.cons s2 (.cons s2 (.cons s2 (.cons s1 (.cons s0 (.cons s0 .nil)))))).sound q2
  refine go ?_
  by_cases h0 : (doT V.T ops).1 = 0
  rotate_left
  · rw [if_pos h0] at hdo
    refine Run.condT (by simp [get, look, h0]) ?_
    refine go ?_
    refine Run.ret1 Tryz.func18 rfl rfl (H' := [VolP v d V, DiskP d D]) (fun h q => ?_) ⟨by rw [hdo], by rw [hdo]⟩
    refine fold V t adr Dp D rfl rfl h ?_
    have q1 := (Take.cons s0 (.cons s0 (.cons s0 (.cons s0 (.cons s1 .nil))))).sound q
    have q2 := seps_drop (A := [TreeA (Gn ++ Dp) u (doT V.T ops).2 adr2] ++ Gn) (B := Dp) [volC v t l V.quota r V.dead, LogP l d V.L, DiskP d D, TreeA Dp t V.T adr, .pt r (.map (List.toArray es) ck)] h (by simpa using q1)
    exact q2
  rw [if_neg (by simpa using h0)] at hdo
  obtain ⟨hpk1, hpk2⟩ := hpk h0
  refine Run.condF (by simp [get, look, h0]) ?_
  generalize (doT V.T ops).2 = T2 at *
  clear hdo1 hT h0
  refine go ?_
  refine Segs.lend [_] (.cons s0 .nil) fun F1 x1 k1 => ?_
  refine go1 ?_
  refine Ops.ldF rfl (k1 _ _ m0) rfl ?_
  refine Ops.call1 rfl .nil (fun F' e kn => tree_Pack _ ops F' (hx.ext (x1.trans e)) hpk1) ?_
  rintro w G ⟨a3, c3, rfl, rfl⟩
  simp only [List.cons_append, List.nil_append]
  refine Ops.lit [.int .u8 2] rfl rfl fun b4 => ?_
  refine Ops.conseq (H' := OwnS (some ⟨b4, 0, none⟩) 1 1 1 5 [.int .u8 2] :: RowP (.slice a3 (packOps ops).length c3) (packOps ops) :: LogP l d V.L :: DiskP d D :: TreeA Dp t V.T adr :: TreeA (Gn ++ Dp) u T2 adr2 :: .pt r (.map (List.toArray es) ck) :: (Gn ++ Dp)) (fun h q => own_of_pt (n := 1) (s := 1) rfl h (seps_cons (fun h q => row_of_own h q) q)) (fun l H H' e o => Segs.conseq (fun h q => seps_cons e q) closed_run o) ?_
  refine Ops.app (m := (packOps ops).length) (ys := bvs (packOps ops)) rfl rfl rfl s0 (fun w h q f => (row_shows m0 w h q f).1) (bvs_one _) (by rw [bvs_len]; simp) (by simp) (by omega) fun a5 c5 => ?_
  have e1 : [Value.int .u8 2] ++ bvs (packOps ops) = bvs (2 :: packOps ops) := rfl
  rw [e1]
  refine Ops.nil (Segs.oneS rfl ?_)
  try simp only [List.cons_append, List.nil_append]
  refine Ops.call1 rfl (.cons s1 (.cons s2 (.cons s2 .nil))) (fun F' e kn => Spec.withG fun G hG F2 e2 k2 => log_Append l d V.L D lok (by omega) _ (2 :: packOps ops) (by simp; omega) F2 (hG.rdB k2)) ?_
  rintro w G ⟨rfl, rfl⟩
  try simp only [List.cons_append, List.nil_append]
  generalize V.L.append D (2 :: packOps ops) = ap at *
  generalize V.keep D T2 ops = kp at *
  refine go1 ?_
  refine Ops.nil (Segs.oneS rfl ?_)
  refine go1 ?_
  refine Ops.nil (Segs.nil ?_)
  refine Run.conseq (H' := LogP l d ap.2.1 :: DiskP d ap.2.2 :: volC v t l V.quota r V.dead :: TreeA Dp t V.T adr :: TreeA (Gn ++ Dp) u T2 adr2 :: .pt r (.map (List.toArray es) ck) :: (Gn ++ Dp)) (fun h q => seps_tail ((Take.cons s3 (.cons s0 (.cons s0 (.cons s0 .nil)))).sound q)) ?_
  refine Run.seq (Run.meet (ι := Unit) (fun _ => True) (fun _ => [(7, .int .i64 kp.1), (5, ptr u), (0, ptr v)]) (fun _ => volC v t l V.quota r V.dead :: LogP l d kp.2.1 :: DiskP d kp.2.2 :: TreeA Dp t V.T adr :: TreeA (Gn ++ Dp) u T2 adr2 :: .pt r (.map (List.toArray es) ck) :: (Gn ++ Dp)) ?_ ?_)
  · rintro ⟨⟩ _
    refine go ?_
    by_cases hk0 : kp.1 = 0
    rotate_left
    · rw [if_pos hk0] at hdo
      refine Run.condT (by simp [get, look, hk0]) ?_
      refine go ?_
      rw [hdead]
      refine go ?_
      refine Run.ret1 Tryz.func18 rfl rfl (H' := [VolP v d { V with L := kp.2.1, dead := V.dead || decide (kp.1 = 3) }, DiskP d kp.2.2]) (fun h q => ?_) ⟨by rw [hdo], by rw [hdo]⟩
      refine fold { V with L := kp.2.1, dead := V.dead || decide (kp.1 = 3) } t adr Dp kp.2.2 rfl rfl h ?_
      have q1 := (Take.cons s0 (.cons s0 (.cons s0 (.cons s0 (.cons s1 .nil))))).sound q
      rw [hdead]
      exact seps_drop (A := [TreeA (Gn ++ Dp) u T2 adr2] ++ Gn) (B := Dp) [_, LogP l d kp.2.1, DiskP d kp.2.2, TreeA Dp t V.T adr, .pt r (.map (List.toArray es) ck)] h (by simpa [pickV] using q1)
    · rw [if_neg (by simpa using hk0)] at hdo
      refine Run.condF (by simp [get, look, hk0]) ?_
      refine go ?_
      refine Ops.callE1 [VolP v d { V with T := T2, L := kp.2.1 }] [DiskP d kp.2.2] rfl (fun h q => ?_) (fun F' e kn => vol_sweep v d { V with T := T2, L := kp.2.1 } (N + ops.length) inv2 few2 F') ?_
      · refine fold { V with T := T2, L := kp.2.1 } u adr2 (Gn ++ Dp) kp.2.2 rfl rfl h ?_
        exact seps_tail (seps_perm (List.Perm.trans (List.Perm.swap _ _ _) (List.Perm.refl _)) h ((Take.cons s3 (.cons s0 .nil)).sound q |> fun q => seps_swap q))
      rintro w G ⟨rfl, rfl⟩
      refine go ?_
      exact Run.ret1 Tryz.func18 rfl rfl (fun h q => q) ⟨by rw [hdo], by rw [hdo]; rfl⟩
  · intro htail
    have htail := htail () trivial
    refine go ?_
    refine Ops.via [(37, .bool (decide (ap.1 = 7 ∨ ap.1 = 6))), (7, .int .i64 ap.1), (5, ptr u), (0, ptr v)] (LogP l d ap.2.1 :: DiskP d ap.2.2 :: volC v t l V.quota r V.dead :: TreeA Dp t V.T adr :: TreeA (Gn ++ Dp) u T2 adr2 :: .pt r (.map (List.toArray es) ck) :: (Gn ++ Dp)) (fun l2 hsub => ?_) ?_
    · refine Segs.nil (Run.sub hsub ?_)
      refine Run.condD rfl (fun h76 => ?_) (fun h76 => ?_)
      · rw [if_pos h76] at hkeep
        refine Run.conseq (H' := TreeA (Gn ++ Dp) u T2 adr2 :: LogP l d ap.2.1 :: DiskP d ap.2.2 :: volC v t l V.quota r V.dead :: TreeA Dp t V.T adr :: .pt r (.map (List.toArray es) ck) :: (Gn ++ Dp)) (fun h q => (Take.cons s4 .nil).sound q) ?_
        refine Run.conseq (fun h q => tree_deep h q) (Run.open_ s0 fun Gt hGt => ?_)
        refine go1 ?_
        refine Run.reg (Segs.oneS rfl ?_)
        refine go1 ?_
        refine Ops.callE1 [LogP l d ap.2.1, DiskP d ap.2.2] (Gt ++ ((Gn ++ Dp) ++ [volC v t l V.quota r V.dead, TreeA Dp t V.T adr, .pt r (.map (List.toArray es) ck)])) rfl (fun h q => ?_)
          (fun F' e kn => vol_anew v t l r d u V.quota V.dead ap.2.1 ap.2.2 hap.1 (by have := hap.2.cache; omega) (Gn ++ Dp) T2 adr2 (N + ops.length) inv2 few2 hT2 hN Gt hGt F' kn.left kn.right.left (kn.right.right _ _ m0)) ?_
        · have q1 : seps (Gt ++ (([LogP l d ap.2.1, DiskP d ap.2.2] ++ [volC v t l V.quota r V.dead, TreeA Dp t V.T adr, .pt r (.map (List.toArray es) ck)]) ++ (Gn ++ Dp))) h := by simpa using q
          have q2 := seps_app (A := Gt) (fun h q => q) (fun h q => seps_comm (A := [LogP l d ap.2.1, DiskP d ap.2.2] ++ [volC v t l V.quota r V.dead, TreeA Dp t V.T adr, .pt r (.map (List.toArray es) ck)]) (B := Gn ++ Dp) h q) h q1
          have q3 := seps_app (A := Gt) (fun h q => q) (fun h q => seps_mid (A := Gn ++ Dp) (B := [LogP l d ap.2.1, DiskP d ap.2.2]) h q) h q2
          exact seps_mid (A := Gt) (B := [LogP l d ap.2.1, DiskP d ap.2.2]) h q3
        rintro w G ⟨rfl, rfl⟩
        rw [← hkeep]
        refine go1 ?_
        refine Ops.nil (Segs.nil ?_)
        refine Run.again htail (.cons rfl (.cons rfl (.cons rfl .nil))) (fun h q => ?_)
        have q1 : seps ([LogP l d kp.2.1, DiskP d kp.2.2] ++ (Gt ++ ((Gn ++ Dp) ++ [volC v t l V.quota r V.dead, TreeA Dp t V.T adr, .pt r (.map (List.toArray es) ck)]))) h := q
        have q2 := seps_mid (A := [LogP l d kp.2.1, DiskP d kp.2.2]) (B := Gt) h q1
        have q3 := tree_flat hGt h q2
        have q4 : seps ([TreeA (Gn ++ Dp) u T2 adr2, LogP l d kp.2.1, DiskP d kp.2.2] ++ ((Gn ++ Dp) ++ [volC v t l V.quota r V.dead, TreeA Dp t V.T adr, .pt r (.map (List.toArray es) ck)])) h := q3
        have q5 := seps_app (A := [TreeA (Gn ++ Dp) u T2 adr2, LogP l d kp.2.1, DiskP d kp.2.2]) (fun h q => q) (fun h q => seps_comm (A := Gn ++ Dp) h q) h q4
        exact (Take.cons s3 (.cons s1 (.cons s1 (.cons s1 (.cons s0 (.cons s0 .nil)))))).sound q5
      · rw [if_neg h76] at hkeep
        subst hkeep
        refine Run.skip ?_
        exact Run.again htail (.cons rfl (.cons rfl (.cons rfl .nil))) (fun h q => (Take.cons s2 (.cons s0 (.cons s0 .nil))).sound q)
    · by_cases h7 : ap.1 = 7
      · have d7 : decide (ap.1 = 7) = true := decide_eq_true h7
        have d8 : decide (ap.1 = 7 ∨ ap.1 = 6) = true := decide_eq_true (.inl h7)
        simp only [d7, d8]
        refine go1 ?_
        exact Ops.nil ⟨.cons rfl (.cons rfl (.cons rfl (.cons rfl .nil))), rfl⟩
      · have d7 : decide (ap.1 = 7) = false := decide_eq_false h7
        have d8 : decide (ap.1 = 7 ∨ ap.1 = 6) = decide (ap.1 = 6) := by simp [h7]
        simp only [d7, d8]
        refine go1 ?_
        exact Ops.nil ⟨.cons rfl (.cons rfl (.cons rfl (.cons rfl .nil))), rfl⟩
end Eng
end Go.Proofs.YtnfomoeicgdkkaaGreatDoor

/- What becomes of a volume whose disk has power: plainly. -/
set_option linter.unusedSimpArgs false
set_option linter.unusedVariables false
namespace Go.Proofs.YtnfomoeicgdkkaaGreatDoor

theorem append_long {L : LogS} {D : DiskS} (hd : L.dead = false) {b : Bytes} (h : 4096 < b.length) : L.append D b = (6, L, D) := by
  unfold LogS.append
  rw [if_neg (by rw [hd]; simp), if_pos h]
theorem append_full {L : LogS} {D : DiskS} (hd : L.dead = false) {b : Bytes} (h : b.length ≤ 4096) (h2 : D.hf < L.pos + sectorsOf b.length) : L.append D b = (7, L, D) := by
  unfold LogS.append
  rw [if_neg (by rw [hd]; simp), if_neg (by omega), if_pos h2]
theorem append_top (L : LogS) (D : DiskS) (b : Bytes) : (L.append D b).2.1.top = L.top := by
  unfold LogS.append
  split
  · rfl
  · split
    · rfl
    · split
      · rfl
      · split <;> rfl

/-- a state of a log: held, with these rows, on a disk that keeps its power -/
structure Fine (L : LogS) (D : DiskS) (rs : List Bytes) (M n : Nat) : Prop where
  held : Held L D rs
  fate : D.fate ≤ 0
  top : L.top ≤ M
  size : D.kept.length = n

theorem Fine.mono {L : LogS} {D : DiskS} {rs : List Bytes} {M M' n : Nat} (h : Fine L D rs M n) (e : M ≤ M') : Fine L D rs M' n := ⟨h.held, h.fate, by have := h.top; omega, h.size⟩

theorem Fine.append {L : LogS} {D : DiskS} {rs : List Bytes} {M n : Nat} (h : Fine L D rs M n) (b : Bytes) :
    ((L.append D b).1 = 0 ∧ Fine (L.append D b).2.1 (L.append D b).2.2 (rs ++ [b]) M n) ∨ (((L.append D b).1 = 7 ∨ (L.append D b).1 = 6) ∧ (L.append D b).2 = (L, D) ∧ (4096 < b.length ∨ (n - 2) / 2 < total rs + sectorsOf b.length)) := by
  by_cases h1 : 4096 < b.length
  · rw [append_long h.held.dead h1]; exact .inr ⟨.inr rfl, rfl, .inl h1⟩
  by_cases h2 : D.hf < L.pos + sectorsOf b.length
  · have h3 := h2
    rw [h.held.pos] at h3
    unfold DiskS.hf at h3
    rw [h.size] at h3
    rw [append_full h.held.dead (by omega) h2]; exact .inr ⟨.inl rfl, rfl, .inr h3⟩
  have hp := h.held.pos
  rcases append_held h.held (b := b) (by omega) (by omega) with ⟨e1, e2, e3, e4⟩ | ⟨e1, e2, _⟩
  · exact .inl ⟨e1, e2, e3 h.fate, by rw [append_top]; exact h.top, by rw [e4]; exact h.size⟩
  · have := h.fate; omega

theorem Fine.rewrite {L : LogS} {D : DiskS} {rs : List Bytes} {M n : Nat} (h : Fine L D rs M n) (hM : M ≤ 2000000000) (bss : List Bytes) :
    ((L.rewrite D bss).1 = 0 ∧ Fine (L.rewrite D bss).2.1 (L.rewrite D bss).2.2 bss (M + 1) n) ∨ (((L.rewrite D bss).1 = 7 ∨ (L.rewrite D bss).1 = 6) ∧ (L.rewrite D bss).2 = (L, D) ∧ ((∃ b ∈ bss, 4096 < b.length) ∨ (n - 2) / 2 < total bss)) := by
  by_cases h1 : ∃ b ∈ bss, 4096 < b.length
  · have e : L.rewrite D bss = (6, L, D) := by
      unfold LogS.rewrite
      rw [if_neg (by rw [h.held.dead]; simp), if_pos h1]
    rw [e]; exact .inr ⟨.inr rfl, rfl, .inl h1⟩
  by_cases h2 : D.hf < total bss
  · have e : L.rewrite D bss = (7, L, D) := by
      unfold LogS.rewrite
      rw [if_neg (by rw [h.held.dead]; simp), if_neg h1, if_pos h2]
    have h3 := h2
    unfold DiskS.hf at h3
    rw [h.size] at h3
    rw [e]; exact .inr ⟨.inl rfl, rfl, .inr h3⟩
  have ht := h.top
  rcases rewrite_held h.held (bss := bss) (fun b hb => Nat.le_of_not_lt fun x => h1 ⟨b, hb, x⟩) (by omega) (by omega) with ⟨e1, e2, e3, e4, e5⟩ | ⟨e1, e2, _⟩
  · exact .inl ⟨e1, e2, e3 h.fate, by omega, by rw [e4]; exact h.size⟩
  · have := h.fate; omega

/-- what keeping operations does -/
theorem keep_fine {V : VolS} {D : DiskS} {rs : List Bytes} {M n : Nat} (h : Fine V.L D rs M n) (hM : M ≤ 2000000000) (T : TreeS) (ops : List OpS) :
    ((V.keep D T ops).1 = 0 ∧ ∃ rs', Fine (V.keep D T ops).2.1 (V.keep D T ops).2.2 rs' (M + 1) n ∧ (rs' = rs ++ [2 :: packOps ops] ∨ (rs' = (dumpT T).map (1 :: ·) ∧ (4096 < (packOps ops).length + 1 ∨ (n - 2) / 2 < total rs + sectorsOf ((packOps ops).length + 1))))) ∨
    (((V.keep D T ops).1 = 7 ∨ (V.keep D T ops).1 = 6) ∧ (V.keep D T ops).2 = (V.L, D) ∧ (4096 < (packOps ops).length + 1 ∨ (n - 2) / 2 < total rs + sectorsOf ((packOps ops).length + 1)) ∧ ((∃ b ∈ dumpT T, 4096 < b.length + 1) ∨ (n - 2) / 2 < total ((dumpT T).map (1 :: ·)))) := by
  unfold VolS.keep
  rcases h.append (2 :: packOps ops) with ⟨e1, e2⟩ | ⟨e1, e2, e3⟩
  · rw [if_neg (by rw [e1]; simp)]
    exact .inl ⟨e1, _, e2.mono (by omega), .inl rfl⟩
  · rw [if_pos e1, e2]
    rcases h.rewrite hM ((dumpT T).map (1 :: ·)) with ⟨f1, f2⟩ | ⟨f1, f2, f3⟩
    · exact .inl ⟨f1, _, f2, .inr ⟨rfl, by simpa using e3⟩⟩
    · refine .inr ⟨f1, f2, by simpa using e3, f3.imp (fun ⟨b, hb, hl⟩ => ?_) id⟩
      obtain ⟨c, hc, rfl⟩ := List.mem_map.1 hb
      exact ⟨c, hc, by simpa using hl⟩

theorem VolS.sweep_holds (V : VolS) : V.sweep.holds = V.holds := rfl

/-- a volume that is well, what lies on its disk, how great it is -/
structure VolS.Well (V : VolS) (D : DiskS) (rs : List Bytes) (N n : Nat) : Prop where
  inv : V.T.Inv
  few : V.T.Few N
  neat : V.T.Neat N
  fine : Fine V.L D rs N n
  dead : V.dead = false
  holds : ∀ i c, aget V.holds i = some c → 0 ≤ c ∧ c ≤ N

theorem VolS.Well.mono {V : VolS} {D : DiskS} {rs : List Bytes} {N N' n : Nat} (h : V.Well D rs N n) (e : N ≤ N') (hN : N' ≤ 1000000000) : V.Well D rs N' n :=
  ⟨h.inv, by have := h.few.grow (Grow.refl h.inv.keys (N' - N)) (by omega); rwa [show N + (N' - N) = N' by omega] at this, h.neat.mono e, h.fine.mono e, h.dead, fun i c hi => by have := h.holds i c hi; omega⟩

theorem VolS.Well.heldB {V : VolS} {D : DiskS} {rs : List Bytes} {N n : Nat} (h : V.Well D rs N n) (i : Int) : 0 ≤ V.held i ∧ V.held i ≤ N := by
  unfold VolS.held
  cases e : aget V.holds i with
  | none => simp
  | some c => exact h.holds i c e

theorem VolS.Well.sweep {V : VolS} {D : DiskS} {rs : List Bytes} {N n : Nat} (h : V.Well D rs N n) : V.sweep.Well D rs N n := by
  have g := reapAll_grow (V.T.loose.filter fun i => !decide (0 < V.held i)) h.inv.keys
  exact ⟨reapAll_inv _ h.inv, h.few.grow g (by have := h.few.great; omega), reapAll_neat _ h.neat, h.fine, h.dead, h.holds⟩

theorem VolS.Well.hold {V : VolS} {D : DiskS} {rs : List Bytes} {N n : Nat} (h : V.Well D rs N n) (hN : N < 1000000000) (p : Bytes) : (V.hold p).2.Well D rs (N + 1) n := by
  have m := h.mono (N' := N + 1) (by omega) (by omega)
  unfold VolS.hold
  split
  · exact m
  · split
    · exact m
    · refine ⟨m.inv, m.few, m.neat, m.fine, m.dead, fun i c e => ?_⟩
      have e2 : aget (aput V.holds (V.T.find p) (V.held (V.T.find p) + 1)) i = some c := e
      rw [aget_aput] at e2
      split at e2
      · cases e2
        have := h.heldB (V.T.find p)
        omega
      · have := h.holds i c e2; omega

theorem VolS.Well.lets {V : VolS} {D : DiskS} {rs : List Bytes} {N n : Nat} (h : V.Well D rs N n) (i : Int) : (V.lets i).2.Well D rs N n := by
  have hb := h.heldB i
  unfold VolS.lets
  split
  · exact h
  · rename_i h0
    apply VolS.Well.sweep
    split
    · refine ⟨h.inv, h.few, h.neat, h.fine, h.dead, fun k c e => ?_⟩
      have e2 : aget (adel (aput V.holds i (V.held i - 1)) i) k = some c := e
      rw [aget_adel, aget_aput] at e2
      split at e2
      · cases e2
      · exact h.holds k c e2
    · refine ⟨h.inv, h.few, h.neat, h.fine, h.dead, fun k c e => ?_⟩
      have e2 : aget (aput V.holds i (V.held i - 1)) k = some c := e
      rw [aget_aput] at e2
      split at e2
      · cases e2; omega
      · exact h.holds k c e2

theorem VolS.Well.doV {V : VolS} {D : DiskS} {rs : List Bytes} {N n : Nat} (h : V.Well D rs N n) (ops : List OpS) (hN : N + ops.length + 1 ≤ 1000000000) :
    ∃ rs', (V.doV D ops).2.1.Well (V.doV D ops).2.2 rs' (N + ops.length + 1) n ∧ (V.doV D ops).2.1.holds = V.holds ∧ (V.doV D ops).2.1.quota = V.quota ∧
      (((V.doV D ops).1 = 0 ∧ (doT V.T ops).1 = 0 ∧ (V.doV D ops).2.1.T = ({ V with T := (doT V.T ops).2 } : VolS).sweep.T ∧ (rs' = rs ++ [2 :: packOps ops] ∨ (rs' = (dumpT (doT V.T ops).2).map (1 :: ·) ∧ (4096 < (packOps ops).length + 1 ∨ (n - 2) / 2 < total rs + sectorsOf ((packOps ops).length + 1))))) ∨
       ((V.doV D ops).1 ≠ 0 ∧ (V.doV D ops).2.1.T = V.T ∧ rs' = rs ∧ ((doT V.T ops).1 = 0 → (4096 < (packOps ops).length + 1 ∨ (n - 2) / 2 < total rs + sectorsOf ((packOps ops).length + 1)) ∧ ((∃ b ∈ dumpT (doT V.T ops).2, 4096 < b.length + 1) ∨ (n - 2) / 2 < total ((dumpT (doT V.T ops).2).map (1 :: ·)))) ∧
         ((doT V.T ops).1 ≠ 0 → (V.doV D ops).1 = (doT V.T ops).1))) := by
  unfold VolS.doV
  rw [if_neg (by rw [h.dead]; simp)]
  by_cases h0 : (doT V.T ops).1 = 0
  · rw [if_neg (by simpa using h0)]
    have hT := doT_inv h.inv h.few (ops := ops) (by omega)
    have few2 := h.few.grow hT.2 (by omega)
    rcases keep_fine h.fine (by omega) (doT V.T ops).2 ops with ⟨e1, rs', e2, e3⟩ | ⟨e1, e2, e3⟩
    · rw [if_neg (by simpa using e1)]
      refine ⟨rs', ?_, rfl, rfl, .inl ⟨rfl, h0, rfl, e3⟩⟩
      apply VolS.Well.sweep
      have few3 := few2.grow (Grow.refl hT.1.keys 1) (by omega)
      exact ⟨hT.1, few3, (doT_neat h.neat ops).mono (by omega), e2.mono (by omega), h.dead, fun i c hi => by have := h.holds i c hi; omega⟩
    · have hne : (V.keep D (doT V.T ops).2 ops).1 ≠ 0 := by omega
      have h3 : ¬ (V.keep D (doT V.T ops).2 ops).1 = 3 := by omega
      rw [if_pos hne, e2]
      refine ⟨rs, ?_, rfl, rfl, .inr ⟨hne, rfl, rfl, fun _ => e3, fun x => absurd h0 x⟩⟩
      have m := h.mono (N' := N + ops.length + 1) (by omega) (by omega)
      exact ⟨m.inv, m.few, m.neat, m.fine, by dsimp only; rw [h.dead, decide_eq_false h3]; rfl, m.holds⟩
  · rw [if_pos h0]
    exact ⟨rs, h.mono (by omega) (by omega), rfl, rfl, .inr ⟨h0, rfl, rfl, fun x => absurd x h0, fun _ => rfl⟩⟩

/-- where there is room, operations that can be done are done, and kept behind what was kept -/
theorem VolS.Well.doV_ok {V : VolS} {D : DiskS} {rs : List Bytes} {N n : Nat} (h : V.Well D rs N n) (ops : List OpS) (hN : N + ops.length + 1 ≤ 1000000000) (h0 : (doT V.T ops).1 = 0) (h1 : (packOps ops).length + 1 ≤ 4096) (h2 : total rs + sectorsOf ((packOps ops).length + 1) ≤ (n - 2) / 2) :
    (V.doV D ops).1 = 0 ∧ (V.doV D ops).2.1.Well (V.doV D ops).2.2 (rs ++ [2 :: packOps ops]) (N + ops.length + 1) n ∧ (V.doV D ops).2.1.holds = V.holds ∧ (V.doV D ops).2.1.quota = V.quota ∧ (V.doV D ops).2.1.T = ({ V with T := (doT V.T ops).2 } : VolS).sweep.T := by
  obtain ⟨rs', w, e1, e2, ⟨f1, _, f2, f3⟩ | ⟨f1, _, _, f4, _⟩⟩ := h.doV ops hN
  · have : rs' = rs ++ [2 :: packOps ops] := f3.resolve_right fun x => by have := x.2; omega
    subst this
    exact ⟨f1, w, e1, e2, f2⟩
  · have := (f4 h0).1; omega

theorem total_snoc (rs : List Bytes) (b : Bytes) : total (rs ++ [b]) = total rs + sectorsOf b.length := by rw [total_app]; simp [total]
end Go.Proofs.YtnfomoeicgdkkaaGreatDoor

/- A volume on a new disk is opened. -/
set_option linter.unusedSimpArgs false
set_option linter.unusedVariables false
set_option maxRecDepth 1000000
namespace Go.Proofs.YtnfomoeicgdkkaaGreatDoor
def newV (q : Int) (L : LogS) : VolS := ⟨newT q, L, q, [], false⟩

theorem newV_well {q : Int} {L : LogS} {D : DiskS} {n : Nat} (h : Fine L D [] 1 n) : (newV q L).Well D [] 2 n :=
  ⟨newT_inv q, newT_few q, (newT_neat q).mono (by omega), h.mono (by omega), rfl, fun i c hi => by simp [newV, aget] at hi⟩

namespace Eng
attribute [local irreducible] Ops Segs Run Spec

theorem vol_Open_new (d n : Nat) (q : Int) (hn : 6 ≤ n ∧ n ≤ 4096) (F : Hp) : Spec Tryz.prog 17 [ptr d, .int .i64 q].toArray F [DiskP d (DiskS.new n)] fun v H =>
    ∃ w L D, v = .tuple [ptr w, .int .i64 0].toArray ∧ H = [VolP w d (newV q L), DiskP d D] ∧ Fine L D [] 1 n := by
  obtain ⟨L, D, ho, hh, ht, hf, hs⟩ := new_open hn
  have hok := new_ok (n := n) (by omega)
  have hfine : Fine L D [] 1 n := ⟨hh, hf, by omega, hs⟩
  have hlist := hh.list
  refine Spec.enterC (n := 102) Tryz.func17 rfl (by simp) (by kernel_rfl) fun ec hc => ?_
  cbv at hc
  injection hc with hc
  subst hc
  simp only [argFr, Nat.reduceAdd]
  refine go ?_
  refine Ops.call1 rfl (.cons s0 .nil) (fun F' e kn => log_Open d (DiskS.new n) hok.1 rfl (by show 0 + 5000 ≤ _; omega) F') ?_
  intro v G hv
  rw [ho] at hv
  obtain ⟨l, rfl, rfl⟩ := hv
  simp only [List.cons_append, List.nil_append]
  refine go ?_
  refine Run.condF rfl ?_
  refine go ?_
  refine Ops.call1 rfl .nil (fun F' e kn => tree_New [] q F') ?_
  rintro v G ⟨t, adr, rfl, rfl⟩
  simp only [List.cons_append, List.nil_append]
  refine go1 ?_
  refine Ops.mkm fun r => ?_
  refine Ops.bld [ptr t, ptr l, .int .i64 q, .map (some r), .bool false] rfl rfl ?_
  refine Ops.box (vs := [ptr t, ptr l, .int .i64 q, .map (some r), .bool false]) rfl rfl fun w => ?_
  refine go ?_
  refine Ops.call1 rfl (.cons s3 .nil) (fun F' e kn => log_List l d L (by rw [hlist]; simp) (by rw [hlist]; simp) F') ?_
  rintro v G ⟨a, c, rfl, rfl⟩
  rw [hlist]
  simp only [List.cons_append, List.nil_append, List.length_nil]
  refine go ?_
  refine Run.loop ?_
  refine go ?_
  refine Run.condF rfl ?_
  refine Run.exit rfl ?_
  refine go ?_
  refine Run.condF rfl ?_
  refine go ?_
  refine Ops.slX (h1 := 0) (l1 := 0) rfl rfl rfl (by omega) (by omega) fun a' => ?_
  refine go ?_
  refine Run.loop ?_
  refine go ?_
  refine Run.condF rfl ?_
  refine Run.exit rfl ?_
  refine go ?_
  refine Run.ret2 Tryz.func17 rfl rfl rfl (fun h q2 => ?_) ⟨w, L, D, rfl, rfl, hfine⟩
  refine fold_app (I := VolI w d (newV q L)) (R := [DiskP d D]) ⟨t, l, r, [], 0, adr, [], MapR.nil, rfl⟩ h ?_
  have q3 := seps_tail q2
  exact (Take.cons s1 (.cons s2 (.cons s0 (.cons s0 (.cons s0 .nil))))).sound q3
end Eng
end Go.Proofs.YtnfomoeicgdkkaaGreatDoor

/- Maps whose values are pointers to what they own. -/
set_option linter.unusedSimpArgs false
set_option linter.unusedVariables false
namespace Go.Proofs.YtnfomoeicgdkkaaGreatDoor
namespace Eng
section
variable {K X : Type} {enc : K → Value} {I : X → Nat → List HA → Prop} {m : Nat} {adr : K → Nat} {L : List (K × X)} {H : List HA}

abbrev encA (adr : K → Nat) (x : K × X) : K × Value := (x.1, ptr (adr x.1))
abbrev nodeA (I : X → Nat → List HA → Prop) (adr : K → Nat) (x : K × X) : HA := grp (I x.2 (adr x.1))

/-- a map m in memory; where what its values point to lies -/
def PM (enc : K → Value) (I : X → Nat → List HA → Prop) (m : Nat) (adr : K → Nat) (L : List (K × X)) : HA :=
  grp fun G => ∃ es ck, MapR enc es ck (L.map (encA adr)) ∧ G = .pt m (.map (List.toArray es) ck) :: L.map (nodeA I adr)

theorem fst_encA (L : List (K × X)) : (L.map (encA adr)).map Prod.fst = L.map Prod.fst := by rw [List.map_map]; rfl

theorem MapR.keysA {es : List MapEntry} {ck : Nat} (h : MapR enc es ck (L.map (encA adr))) : (L.map Prod.fst).Nodup := by have := h.keys; rwa [fst_encA] at this

theorem pm_keys : ∀ w, seps (PM enc I m adr L :: H) w → (L.map Prod.fst).Nodup := by
  rintro w ⟨x, y, sp, ⟨G, ⟨es, ck, h1, rfl⟩, q⟩, qr⟩
  exact h1.keysA

theorem pm_close {es : List MapEntry} {ck : Nat} (h : MapR enc es ck (L.map (encA adr))) : ∀ w, seps (.pt m (.map es.toArray ck) :: (L.map (nodeA I adr) ++ H)) w → seps (PM enc I m adr L :: H) w := by
  intro w q
  obtain ⟨x, y, sp, qx, qy⟩ := seps_append.1 (show seps ((.pt m (.map es.toArray ck) :: L.map (nodeA I adr)) ++ H) w from q)
  exact ⟨x, y, sp, ⟨_, ⟨es, ck, h, rfl⟩, qx⟩, qy⟩

theorem nodeA_cong {adr' : K → Nat} (L : List (K × X)) (h : ∀ x ∈ L, adr' x.1 = adr x.1) : L.map (nodeA I adr') = L.map (nodeA I adr) := by
  apply List.map_congr_left
  intro x hx
  unfold nodeA
  rw [h x hx]
theorem encA_cong {adr' : K → Nat} (L : List (K × X)) (h : ∀ x ∈ L, adr' x.1 = adr x.1) : L.map (encA adr') = L.map (encA adr) := by
  apply List.map_congr_left
  intro x hx
  unfold encA
  rw [h x hx]

variable {P : Program} {f : FuncId} {n : Nat} {F : Hp} {Kc : List EI} {l : Fr} {R : Value → List HA → Prop}
theorem Run.pmOpen (r : ∀ es ck, MapR enc es ck (L.map (encA adr)) → Run P f n F Kc l (.pt m (.map es.toArray ck) :: (L.map (nodeA I adr) ++ H)) R) : Run P f n F Kc l (PM enc I m adr L :: H) R := by
  refine Run.open_ s0 fun G hG => ?_
  obtain ⟨es, ck, h1, rfl⟩ := hG
  exact r es ck h1

theorem pm_new {m : Nat} : ∀ w, seps (.pt m (.map (List.toArray []) 0) :: H) w → seps (PM enc I m adr ([] : List (K × X)) :: H) w :=
  fun w q => pm_close (L := []) MapR.nil w q
end
section
variable {K X : Type} [DecidableEq K] {enc : K → Value} {I : X → Nat → List HA → Prop} {m : Nat} {adr : K → Nat} {L : List (K × X)} {H : List HA}
theorem aget_encA (L : List (K × X)) (k : K) : aget (L.map (encA adr)) k = (aget L k).map fun _ => ptr (adr k) := aget_mapk (fun k _ => ptr (adr k)) L k
theorem adel_encA (L : List (K × X)) (k : K) : adel (L.map (encA adr)) k = (adel L k).map (encA adr) := adel_map (fun k _ => ptr (adr k)) L k
/-- the node of a key, pulled ahead -/
theorem pm_pull {es : List MapEntry} {ck : Nat} (nd : (L.map Prod.fst).Nodup) {k : K} {x : X} (hk : aget L k = some x) : ∀ w, seps (.pt m (.map es.toArray ck) :: (L.map (nodeA I adr) ++ H)) w → seps (grp (I x (adr k)) :: .pt m (.map es.toArray ck) :: ((adel L k).map (nodeA I adr) ++ H)) w := by
  intro w q
  have p := (adel_perm_map (nodeA I adr) nd hk).append_right H
  exact seps_perm ((p.cons _).trans (List.Perm.swap _ _ _)) w q
theorem pm_push {es : List MapEntry} {ck : Nat} (nd : (L.map Prod.fst).Nodup) {k : K} {x : X} (hk : aget L k = some x) : ∀ w, seps (grp (I x (adr k)) :: .pt m (.map es.toArray ck) :: ((adel L k).map (nodeA I adr) ++ H)) w → seps (.pt m (.map es.toArray ck) :: (L.map (nodeA I adr) ++ H)) w := by
  intro w q
  have p := (adel_perm_map (nodeA I adr) nd hk).append_right H
  exact seps_perm ((p.cons _).trans (List.Perm.swap _ _ _)).symm w q

/-- closed, as it was -/
theorem pm_shut {es : List MapEntry} {ck : Nat} (h : MapR enc es ck (L.map (encA adr))) {k : K} {x : X} (hk : aget L k = some x) : ∀ w, seps (grp (I x (adr k)) :: .pt m (.map es.toArray ck) :: ((adel L k).map (nodeA I adr) ++ H)) w → seps (PM enc I m adr L :: H) w :=
  fun w q => pm_close h w (pm_push h.keysA hk w q)

/-- closed, what lies at a key turned -/
theorem pm_set {es : List MapEntry} {ck : Nat} (h : MapR enc es ck (L.map (encA adr))) {k : K} {x : X} (hk : aget L k = some x) (x' : X) : ∀ w, seps (grp (I x' (adr k)) :: .pt m (.map es.toArray ck) :: ((adel L k).map (nodeA I adr) ++ H)) w → seps (PM enc I m adr (aput L k x') :: H) w := by
  intro w q
  refine pm_close (es := es) (ck := ck) (L := aput L k x') ?_ w ?_
  · refine h.perm' ?_
    unfold aput
    rw [List.map_cons]
    have p := adel_perm_map (encA adr) h.keysA hk
    exact p
  · unfold aput
    rw [List.map_cons]
    exact seps_swap q

def adrAt (adr : K → Nat) (k : K) (b : Nat) : K → Nat := fun i => if i = k then b else adr i

/-- closed, something new at a key -/
theorem pm_put {es : List MapEntry} {ck : Nat} {k : K} {b : Nat} (h : MapR enc es ck (aput (L.map (encA adr)) k (ptr b))) (x : X) : ∀ w, seps (grp (I x b) :: .pt m (.map es.toArray ck) :: ((adel L k).map (nodeA I adr) ++ H)) w → seps (PM enc I m (adrAt adr k b) (aput L k x) :: H) w := by
  intro w q
  have ha : ∀ y ∈ adel L k, adrAt adr k b y.1 = adr y.1 := by
    intro y hy
    unfold adrAt
    rw [if_neg (adel_not _ _ y hy)]
  refine pm_close (es := es) (ck := ck) (L := aput L k x) ?_ w ?_
  · unfold aput at h ⊢
    rw [List.map_cons, encA_cong _ ha, ← adel_encA]
    have e : encA (adrAt adr k b) (k, x) = (k, ptr b) := by unfold encA adrAt; simp
    rw [e]
    exact h
  · unfold aput
    rw [List.map_cons, nodeA_cong _ ha]
    have e : nodeA I (adrAt adr k b) (k, x) = grp (I x b) := by unfold nodeA adrAt; simp
    rw [e]
    exact seps_swap q

/-- closed, a key gone -/
theorem pm_del {es : List MapEntry} {ck : Nat} {k : K} (h : MapR enc es ck (adel (L.map (encA adr)) k)) : ∀ w, seps (.pt m (.map es.toArray ck) :: ((adel L k).map (nodeA I adr) ++ H)) w → seps (PM enc I m adr (adel L k) :: H) w :=
  fun w q => pm_close (by rw [← adel_encA]; exact h) w q

variable {P : Program} {f : FuncId} {n : Nat} {F : Hp} {Kc : List EI} {l : Fr} {R : Value → List HA → Prop} {D : TypeDesc}

/-- a map is opened at a key that is there -/
theorem Run.pmAt (s : Same D enc) {k : K} {x : X} (hk : aget L k = some x)
    (r : ∀ es ck fr, MapR enc es ck (L.map (encA adr)) → Instr.findNow D (enc k) es 0 = some (some (fr, ptr (adr k))) → MapR enc (mapDel es (some (fr, ptr (adr k)))) ck (adel (L.map (encA adr)) k) →
      (∀ v, MapR enc (mapPut es ck (enc k) v (some (fr, ptr (adr k)))) (mapClock ck (some (fr, ptr (adr k)))) (aput (L.map (encA adr)) k v)) → Run P f n F Kc l (grp (I x (adr k)) :: .pt m (.map es.toArray ck) :: ((adel L k).map (nodeA I adr) ++ H)) R) :
    Run P f n F Kc l (PM enc I m adr L :: H) R := by
  refine Run.open_ s0 fun G hG => ?_
  obtain ⟨es, ck, h1, rfl⟩ := hG
  obtain ⟨fr, hf, hg, hput, hdel⟩ := h1.find s k
  rw [aget_encA, hk] at hg
  obtain ⟨⟨j, u⟩, rfl, e⟩ := Option.map_eq_some_iff.1 hg
  dsimp only at e
  subst e
  exact Run.conseq (fun h q => pm_pull h1.keysA hk h q) (r es ck j h1 hf hdel hput)

/-- a map is opened, a key not being there -/
theorem Run.pmNo (s : Same D enc) {k : K} (hk : aget L k = none)
    (r : ∀ es ck, MapR enc es ck (L.map (encA adr)) → Instr.findNow D (enc k) es 0 = some none → (∀ v, MapR enc (mapPut es ck (enc k) v none) (mapClock ck none) (aput (L.map (encA adr)) k v)) → Run P f n F Kc l (.pt m (.map es.toArray ck) :: (L.map (nodeA I adr) ++ H)) R) :
    Run P f n F Kc l (PM enc I m adr L :: H) R := by
  refine Run.open_ s0 fun G hG => ?_
  obtain ⟨es, ck, h1, rfl⟩ := hG
  obtain ⟨fr, hf, hg, hput, _⟩ := h1.find s k
  rw [aget_encA, hk] at hg
  have : fr = none := by cases fr with | none => rfl | some x => cases hg
  subst this
  exact r es ck h1 hf hput

end
end Eng
end Go.Proofs.YtnfomoeicgdkkaaGreatDoor

/- What runs: plainly, and in memory; files are held for it, and let go. -/
set_option linter.unusedSimpArgs false
set_option linter.unusedVariables false
set_option maxRecDepth 1000000
namespace Go.Proofs.YtnfomoeicgdkkaaGreatDoor

structure ProcS where
  pid : Int
  unit : Bytes
  maps : List Int
  ending : Bool

structure TabS where
  list : List (Int × ProcS)
  next : Int

def letAll (V : VolS) : List Int → VolS
  | [] => V
  | i :: r => letAll (V.lets i).2 r

/-- files at paths are held, one by one: the error's number, those that are held, the volume -/
def holdAll : VolS → List Bytes → List Int → Int × List Int × VolS
  | V, [], acc => (0, acc, V)
  | V, s :: r, acc => if (V.hold s).1.2 = 0 then holdAll (V.hold s).2 r (acc ++ [(V.hold s).1.1]) else ((V.hold s).1.2, acc, (V.hold s).2)

/-- a file more is held -/
def ProcS.take (x : ProcS) (V : VolS) (s : Bytes) : ProcS := if (V.hold s).1.2 = 0 then { x with maps := x.maps ++ [(V.hold s).1.1] } else x

/-- what a volume must be for its files to be held -/
structure VolS.Holds (V : VolS) (N B : Nat) : Prop where
  inv : V.T.Inv
  few : V.T.Few N
  holds : ∀ i c, aget V.holds i = some c → 0 ≤ c ∧ c ≤ B
theorem VolS.Holds.mono {V : VolS} {N B B' : Nat} (h : V.Holds N B) (e : B ≤ B') : V.Holds N B' := ⟨h.inv, h.few, fun i c hi => by have := h.holds i c hi; omega⟩
theorem VolS.Holds.heldB {V : VolS} {N B : Nat} (h : V.Holds N B) (i : Int) : 0 ≤ V.held i ∧ V.held i ≤ B := by
  unfold VolS.held
  cases e : aget V.holds i with
  | none => simp
  | some c => exact h.holds i c e
theorem VolS.Holds.sweep {V : VolS} {N B : Nat} (h : V.Holds N B) : V.sweep.Holds N B := by
  have g := reapAll_grow (V.T.loose.filter fun i => !decide (0 < V.held i)) h.inv.keys
  exact ⟨reapAll_inv _ h.inv, h.few.grow g (by have := h.few.great; omega), h.holds⟩
theorem VolS.Holds.hold {V : VolS} {N B : Nat} (h : V.Holds N B) (p : Bytes) : (V.hold p).2.Holds N (B + 1) := by
  unfold VolS.hold
  split
  · exact h.mono (by omega)
  · split
    · exact h.mono (by omega)
    · refine ⟨h.inv, h.few, fun i c e => ?_⟩
      have e2 : aget (aput V.holds (V.T.find p) (V.held (V.T.find p) + 1)) i = some c := e
      rw [aget_aput] at e2
      split at e2
      · cases e2
        have := h.heldB (V.T.find p)
        omega
      · have := h.holds i c e2; omega
theorem VolS.Holds.lets {V : VolS} {N B : Nat} (h : V.Holds N B) (i : Int) : (V.lets i).2.Holds N B := by
  have hb := h.heldB i
  unfold VolS.lets
  split
  · exact h
  · rename_i h0
    apply VolS.Holds.sweep
    split
    · refine ⟨h.inv, h.few, fun k c e => ?_⟩
      have e2 : aget (adel (aput V.holds i (V.held i - 1)) i) k = some c := e
      rw [aget_adel, aget_aput] at e2
      split at e2
      · cases e2
      · exact h.holds k c e2
    · refine ⟨h.inv, h.few, fun k c e => ?_⟩
      have e2 : aget (aput V.holds i (V.held i - 1)) k = some c := e
      rw [aget_aput] at e2
      split at e2
      · cases e2; omega
      · exact h.holds k c e2
theorem VolS.Holds.all {N B : Nat} : ∀ (ids : List Int) {V : VolS}, V.Holds N B → (letAll V ids).Holds N B
  | [], _, h => h
  | i :: r, _, h => VolS.Holds.all r (h.lets i)
theorem VolS.Holds.holdAll {N : Nat} : ∀ (ps : List Bytes) {V : VolS} {B : Nat} (acc : List Int), V.Holds N B → (holdAll V ps acc).2.2.Holds N (B + ps.length)
  | [], _, _, _, h => h
  | s :: r, V, B, acc, h => by
    unfold Proofs.YtnfomoeicgdkkaaGreatDoor.holdAll
    split
    · have := VolS.Holds.holdAll r (acc ++ [(V.hold s).1.1]) (h.hold s)
      rw [List.length_cons, show B + (r.length + 1) = B + 1 + r.length by omega]
      exact this
    · exact (h.hold s).mono (by simp)
theorem holdAll_len : ∀ (ps : List Bytes) (V : VolS) (acc : List Int), (holdAll V ps acc).2.1.length ≤ acc.length + ps.length
  | [], _, _ => by unfold holdAll; simp
  | s :: r, V, acc => by
    unfold holdAll
    split
    · have := holdAll_len r (V.hold s).2 (acc ++ [(V.hold s).1.1])
      simp only [List.length_append, List.length_cons, List.length_nil] at this ⊢
      omega
    · simp

namespace Eng

abbrev procC (p : Nat) (x : ProcS) (ma : Option Addr) (mc : Nat) : HA := .pt p (.cells [.int .i64 x.pid, sv x.unit, .slice ma x.maps.length mc, .bool x.ending].toArray 183 (0, 0))
def ProcI (x : ProcS) (a : Nat) (G : List HA) : Prop := ∃ ma mc, G = [procC a x ma mc, OwnS ma x.maps.length mc 1 3 (x.maps.map encI)]

abbrev tabC (tb v m : Nat) (next : Int) : HA := .pt tb (.cells [.iface 26 (ptr v), .map (some m), .int .i64 next].toArray 190 (0, 0))
def TabI (tb v : Nat) (S : TabS) (G : List HA) : Prop := ∃ m adr, G = [tabC tb v m S.next, PM encI ProcI m adr S.list]
def TabP (tb v : Nat) (S : TabS) : HA := grp (TabI tb v S)

theorem vol_meth (name : String) (g : FuncId) (h : ((Tryz.prog.info? 26).bind fun ti => (ti.methods.find? fun m => m.name == name).bind fun m => if m.path = #[] ∧ m.func = some (g, true) then some () else none) = some ()) :
   ∃ ti m, Tryz.prog.info? 26 = some ti ∧ ti.methods.find? (fun m => m.name == name) = some m ∧ m.path = #[] ∧ m.func = some (g, true) := by
  cases h1 : Tryz.prog.info? 26 with
  | none => rw [h1] at h; cases h
  | some ti =>
    rw [h1] at h
    simp only [Option.bind_some] at h
    cases h2 : ti.methods.find? fun m => m.name == name with
    | none => rw [h2] at h; cases h
    | some m =>
      rw [h2] at h
      simp only [Option.bind_some] at h
      split at h
      · rename_i h3; exact ⟨ti, m, rfl, h2, h3.1, h3.2⟩
      · cases h
theorem meth_Hold : ∃ ti m, Tryz.prog.info? 26 = some ti ∧ ti.methods.find? (fun m => m.name == "Hold") = some m ∧ m.path = #[] ∧ m.func = some (19, true) := vol_meth _ _ (by kernel_rfl)
theorem meth_Let : ∃ ti m, Tryz.prog.info? 26 = some ti ∧ ti.methods.find? (fun m => m.name == "Let") = some m ∧ m.path = #[] ∧ m.func = some (23, true) := vol_meth _ _ (by kernel_rfl)
theorem und_vol : Tryz.prog.underlying 26 = some (.pointer 40) := by kernel_rfl

attribute [local irreducible] Ops Segs Run Spec

theorem proc_hold (tb p v d : Nat) (x : ProcS) (V : VolS) (m : Nat) (next : Int) (N B : Nat) (hV : V.Holds N B) (hB : B ≤ 1000000000) (s : Bytes) (hx : x.maps.length ≤ 1000000000) (F : Hp) (g : Glob F) :
    Spec Tryz.prog 105 [ptr tb, ptr p, sv s].toArray F [tabC tb v m next, grp (ProcI x p), VolP v d V] fun u H =>
      u = .int .i64 (V.hold s).1.2 ∧ H = [tabC tb v m next, grp (ProcI (x.take V s) p), VolP v d (V.hold s).2] := by
  obtain ⟨ti, me, hi, hm, hp, hf⟩ := meth_Hold
  have ht : x.take V s = if (V.hold s).1.2 = 0 then { x with maps := x.maps ++ [(V.hold s).1.1] } else x := rfl
  refine Spec.enterC (n := 31) Tryz.func105 rfl (by simp) (by kernel_rfl) fun ec hc => ?_
  cbv at hc
  injection hc with hc
  subst hc
  simp only [argFr, Nat.reduceAdd]
  refine Run.conseq (H' := grp (ProcI x p) :: [tabC tb v m next, VolP v d V]) (fun h q => seps_swap q) ?_
  refine Run.open_ s0 fun G hG => ?_
  obtain ⟨ma, mc, rfl⟩ := hG
  simp only [List.cons_append, List.nil_append]
  refine go ?_
  refine Ops.inv (vs := [sv s]) rfl rfl hi hm hp hf und_vol Tryz.func19 rfl (by kernel_rfl) (.cons s3 .nil) (fun F' e kn => vol_Hold v d V N hV.inv hV.few (fun i c hi => by have := hV.holds i c hi; omega) s F' (g.ext e)) ?_
  rintro u G ⟨rfl, rfl⟩
  simp only [List.cons_append, List.nil_append]
  generalize V.hold s = hs at *
  refine go ?_
  refine Run.condD (p := hs.1.2 = 0) rfl (fun h0 => ?_) (fun h0 => ?_)
  · rw [if_pos h0] at ht
    refine go ?_
    refine Ops.lit [encI hs.1.1] rfl rfl fun b => ?_
    refine Ops.app (m := 1) (ys := [encI hs.1.1]) rfl rfl rfl s3 (shows_pt m0 (Nat.le_refl 1) rfl) (fun v hv => by rw [List.mem_singleton] at hv; subst hv; rfl) rfl (by decide) (by omega) fun a' c' => ?_
    refine go ?_
    refine Run.ret1 Tryz.func105 rfl rfl (H' := [tabC tb v m next, grp (ProcI (x.take V s) p), VolP v d hs.2]) (fun h q => ?_) ⟨rfl, rfl⟩
    rw [ht]
    have q1 := (Take.cons s4 (.cons s3 (.cons s0 (.cons s1 .nil)))).sound q
    refine seps_cons (fun h q => ?_) q1
    refine fold_app (I := ProcI { x with maps := x.maps ++ [hs.1.1] } p) (R := [VolP v d hs.2]) ⟨a', c', rfl⟩ h ?_
    have e1 : (x.maps ++ [hs.1.1]).length = x.maps.length + 1 := by simp
    have e2 : (x.maps ++ [hs.1.1]).map encI = x.maps.map encI ++ [encI hs.1.1] := by simp
    simp only [procC]
    rw [e1, e2]
    exact take_sub (.cons s0 (.cons s0 (.cons s0 .nil))) h q
  · rw [if_neg h0] at ht
    refine go ?_
    refine Run.ret1 Tryz.func105 rfl rfl (H' := [tabC tb v m next, grp (ProcI (x.take V s) p), VolP v d hs.2]) (fun h q => ?_) ⟨rfl, rfl⟩
    rw [ht]
    have q1 := (Take.cons s3 (.cons s1 (.cons s1 (.cons s0 .nil)))).sound q
    refine seps_cons (fun h q => ?_) q1
    exact fold_app (I := ProcI x p) (R := [VolP v d hs.2]) ⟨ma, mc, rfl⟩ h q

theorem proc_free (tb p v d : Nat) (x : ProcS) (V : VolS) (m : Nat) (next : Int) (N B : Nat) (hV : V.Holds N B) (hB : B ≤ 1000000000) (hx : x.maps.length ≤ 1000000000) (F : Hp) :
    Spec Tryz.prog 106 [ptr tb, ptr p].toArray F [tabC tb v m next, grp (ProcI x p), VolP v d V] fun u H =>
      u = .tuple [].toArray ∧ H = [tabC tb v m next, grp (ProcI { x with maps := [] } p), VolP v d (letAll V x.maps)] := by
  obtain ⟨ti, me, hi, hm, hp, hf⟩ := meth_Let
  refine Spec.enterC (n := 25) Tryz.func106 rfl (by simp) (by kernel_rfl) fun ec hc => ?_
  cbv at hc
  injection hc with hc
  subst hc
  simp only [argFr, Nat.reduceAdd]
  refine Run.conseq (H' := grp (ProcI x p) :: [tabC tb v m next, VolP v d V]) (fun h q => seps_swap q) ?_
  refine Run.open_ s0 fun G hG => ?_
  obtain ⟨ma, mc, rfl⟩ := hG
  simp only [List.cons_append, List.nil_append]
  refine Run.conseq (H' := OwnS ma x.maps.length mc 1 3 (x.maps.map encI) :: [procC p x ma mc, tabC tb v m next, VolP v d V]) (fun h q => seps_swap q) ?_
  refine Run.open_ s0 fun G1 hG1 => ?_
  refine Run.conseq (H' := procC p x ma mc :: tabC tb v m next :: VolP v d V :: G1) (fun h q => seps_comm (A := G1) h q) ?_
  refine go ?_
  refine Run.loopI (ι := Nat × VolS) (fun y => x.maps.length - y.1) (fun y => y.1 ≤ x.maps.length ∧ y.2.Holds N B ∧ letAll V x.maps = letAll y.2 (x.maps.drop y.1))
    (fun y => [(11, .int .i64 y.1), (10, .int .i64 x.maps.length), (9, .slice ma x.maps.length mc), (0, ptr tb), (1, ptr p)])
    (fun y => procC p x ma mc :: tabC tb v m next :: VolP v d y.2 :: G1) (0, V) ⟨Nat.zero_le _, hV, rfl⟩ (.cons rfl (.cons rfl (.cons rfl (.cons rfl (.cons rfl .nil))))) (fun _ h => h) ?_
  rintro ⟨j, Vj⟩ ⟨hj, hVj, hall⟩ ih
  have ihn := ih
  clear ih
  dsimp only at hj hVj hall ihn ⊢
  refine go ?_
  refine Run.condD rfl (fun hlt => ?_) (fun hge => ?_)
  · have hlt' : j < x.maps.length := by omega
    have hget : x.maps.drop j = x.maps[j] :: x.maps.drop (j + 1) := List.drop_eq_getElem_cons hlt'
    have hel : x.maps[j]? = some x.maps[j] := List.getElem?_eq_getElem hlt'
    obtain ⟨hl, ⟨_, hz, _⟩ | ⟨b, sp, rfl, hc, hcap, rfl⟩⟩ := hG1
    · omega
    have hcell : (x.maps.map encI ++ sp)[j]? = some (encI x.maps[j]) := by
      rw [List.getElem?_append_left (by simpa using hlt'), List.getElem?_map, hel]; rfl
    have hall2 : letAll V x.maps = letAll (Vj.lets x.maps[j]).2 (x.maps.drop (j + 1)) := by rw [hall, hget]; rfl
    refine go ?_
    refine Ops.ixS rfl rfl ⟨by omega, by omega⟩ ?_
    refine Ops.ld rfl m3 (by rw [Int.toNat_natCast, Nat.mul_one, Nat.zero_add]; exact hcell) ?_
    refine go ?_
    refine Ops.inv (vs := [encI x.maps[j]]) rfl rfl hi hm hp hf und_vol Tryz.func23 rfl (by kernel_rfl) (.cons s2 .nil) (fun F' e kn => vol_Let v d Vj N hVj.inv hVj.few (fun i c hi => by have := hVj.holds i c hi; omega) _ F') ?_
    rintro u G ⟨rfl, rfl⟩
    simp only [List.cons_append, List.nil_append]
    refine go ?_
    refine Run.lp (Run.again (ihn (j + 1, (Vj.lets x.maps[j]).2) (by dsimp only; omega) ⟨by dsimp only; omega, hVj.lets _, hall2⟩) (.cons rfl (.cons rfl (.cons rfl (.cons rfl (.cons rfl .nil))))) (fun h q => (Take.cons s1 (.cons s1 (.cons s0 .nil))).sound q))
  · have hje : j = x.maps.length := by omega
    subst hje
    rw [List.drop_length] at hall
    have hall : letAll V x.maps = Vj := hall
    rw [hall]
    refine Run.exit rfl ?_
    refine go ?_
    refine Run.done0 Tryz.func106 rfl (fun h q => ?_) ⟨rfl, rfl⟩
    have q1 := (Take.cons s1 (.cons s0 (.cons s0 .nil))).sound q
    refine seps_cons (fun h q => ?_) q1
    refine fold_app (I := ProcI { x with maps := [] } p) (R := [VolP v d Vj]) ⟨none, 0, rfl⟩ h ?_
    exact seps_cons (fun h q => own_new h (take_sub (.cons s0 .nil) h q)) q
end Eng
end Go.Proofs.YtnfomoeicgdkkaaGreatDoor

/- Something runs; it ends. -/
set_option linter.unusedSimpArgs false
set_option linter.unusedVariables false
set_option maxRecDepth 1000000
namespace Go.Proofs.YtnfomoeicgdkkaaGreatDoor

/-- the number, the error's number -/
def TabS.spawn (S : TabS) (V : VolS) (unit : Bytes) (paths : List Bytes) : (Int × Int) × TabS × VolS :=
  if 8 < paths.length then ((0, 22), S, V) else if 32 ≤ S.list.length then ((0, 7), S, V) else
    if (holdAll V paths []).1 ≠ 0 then ((0, (holdAll V paths []).1), S, letAll (holdAll V paths []).2.2 (holdAll V paths []).2.1)
    else ((S.next, 0), ⟨aput S.list S.next ⟨S.next, unit, (holdAll V paths []).2.1, false⟩, S.next + 1⟩, (holdAll V paths []).2.2)

def TabS.exit (S : TabS) (V : VolS) (pid : Int) : Int × TabS × VolS := match aget S.list pid with
  | none => (8, S, V)
  | some x => (0, { S with list := adel S.list pid }, letAll V x.maps)
def TabS.kill (S : TabS) (pid : Int) : Int × TabS := match aget S.list pid with
  | none => (8, S)
  | some x => (0, { S with list := aput S.list pid { x with ending := true } })
def TabS.pick (S : TabS) (V : VolS) (pid : Int) : (Bool × Int) × TabS × VolS := match aget S.list pid with
  | none => ((false, 8), S, V)
  | some x => if x.ending = false then ((false, 0), S, V) else ((true, (S.exit V pid).1), (S.exit V pid).2)
def TabS.map (S : TabS) (V : VolS) (pid : Int) (s : Bytes) : Int × TabS × VolS := match aget S.list pid with
  | none => (8, S, V)
  | some x => if 8 ≤ x.maps.length then (22, S, V) else ((V.hold s).1.2, { S with list := aput S.list pid (x.take V s) }, (V.hold s).2)

/-- what all tables have -/
structure TabS.Ok (S : TabS) (M : Nat) : Prop where
  keys : ∀ k x, aget S.list k = some x → 1 ≤ k ∧ k < S.next ∧ x.pid = k ∧ x.maps.length ≤ 8
  next : 1 ≤ S.next ∧ S.next ≤ M
  great : M ≤ 1000000000

namespace Eng
/-- texts that can be read in the frame, as arguments -/
abbrev RdTs (F : Hp) (v : Value) (l : List Bytes) : Prop := RdE sv F v l

attribute [local irreducible] Ops Segs Run Spec

theorem proc_New (v : Nat) (F : Hp) : Spec Tryz.prog 33 [.iface 26 (ptr v)].toArray F [] fun u H => ∃ tb, u = ptr tb ∧ H = [TabP tb v ⟨[], 1⟩] := by
  refine Spec.enterC (n := 7) Tryz.func33 rfl (by simp) (by kernel_rfl) fun ec hc => ?_
  cbv at hc
  injection hc with hc
  subst hc
  simp only [argFr, Nat.reduceAdd]
  refine go ?_
  refine Ops.mkm fun m => ?_
  refine Ops.bld [.iface 26 (ptr v), .map (some m), .int .i64 1] rfl rfl ?_
  refine Ops.box (vs := [.iface 26 (ptr v), .map (some m), .int .i64 1]) rfl rfl fun tb => ?_
  refine go ?_
  refine Run.ret1 Tryz.func33 rfl rfl (fun h q => ?_) ⟨tb, rfl, rfl⟩
  exact fold_app (I := TabI tb v ⟨[], 1⟩) (R := []) ⟨m, fun _ => 0, rfl⟩ h (seps_cons (fun h q => pm_new h q) q)

theorem proc_Exit (tb v d : Nat) (S : TabS) (V : VolS) (N B M : Nat) (hS : S.Ok M) (hV : V.Holds N B) (hB : B ≤ 1000000000) (pid : Int) (F : Hp) :
    Spec Tryz.prog 37 [ptr tb, .int .i64 pid].toArray F [TabP tb v S, VolP v d V] fun u H => u = .int .i64 (S.exit V pid).1 ∧ H = [TabP tb v (S.exit V pid).2.1, VolP v d (S.exit V pid).2.2] := by
  refine Spec.enterC (n := 22) Tryz.func37 rfl (by simp) (by kernel_rfl) fun ec hc => ?_
  cbv at hc
  injection hc with hc
  subst hc
  simp only [argFr, Nat.reduceAdd]
  refine Run.open_ s0 fun G hG => ?_
  obtain ⟨m, adr, rfl⟩ := hG
  simp only [List.cons_append, List.nil_append]
  refine Run.conseq (H' := PM encI ProcI m adr S.list :: [tabC tb v m S.next, VolP v d V]) (fun h q => seps_swap q) ?_
  cases hk : aget S.list pid with
  | none =>
    have he : S.exit V pid = (8, S, V) := by unfold TabS.exit; rw [hk]
    refine Run.pmNo same_i hk fun es ck h1 hf hput => ?_
    refine Run.conseq (H' := .pt m (.map es.toArray ck) :: tabC tb v m S.next :: VolP v d V :: S.list.map (nodeA ProcI adr)) (fun h q => seps_cons (fun h q => seps_comm (A := S.list.map (nodeA ProcI adr)) h q) q) ?_
    refine go ?_
    refine Ops.lkp rfl rfl m0 hf ?_
    refine go ?_
    refine Run.condT rfl ?_
    refine go ?_
    refine Run.ret1 Tryz.func37 rfl rfl (fun h q => ?_) ⟨by rw [he], by rw [he]⟩
    have q1 := seps_cons (fun h q => seps_comm (A := [tabC tb v m S.next, VolP v d V]) (B := S.list.map (nodeA ProcI adr)) h q) q
    have q2 := pm_close h1 h q1
    exact fold_app (I := TabI tb v S) (R := [VolP v d V]) ⟨m, adr, rfl⟩ h (seps_swap q2)
  | some x =>
    have he : S.exit V pid = (0, { S with list := adel S.list pid }, letAll V x.maps) := by unfold TabS.exit; rw [hk]
    have hx := (hS.keys pid x hk).2.2.2
    refine Run.pmAt same_i hk fun es ck fr h1 hf hdel hput => ?_
    refine Run.conseq (H' := tabC tb v m S.next :: grp (ProcI x (adr pid)) :: VolP v d V :: .pt m (.map es.toArray ck) :: (adel S.list pid).map (nodeA ProcI adr)) (fun h q => ?_) ?_
    · have q1 := seps_cons (fun h q => seps_cons (fun h q => seps_comm (A := (adel S.list pid).map (nodeA ProcI adr)) h q) q) q
      exact (Take.cons s2 (.cons s0 (.cons s1 (.cons s0 .nil)))).sound q1
    refine go ?_
    refine Ops.lkp rfl rfl m3 hf ?_
    refine go ?_
    refine Run.condF rfl ?_
    refine go ?_
    refine Ops.callE1 [tabC tb v m S.next, grp (ProcI x (adr pid)), VolP v d V] (.pt m (.map es.toArray ck) :: (adel S.list pid).map (nodeA ProcI adr)) rfl (fun h q => q) (fun F' e kn => proc_free tb (adr pid) v d x V m S.next N B hV hB (by omega) F') ?_
    rintro u G ⟨rfl, rfl⟩
    simp only [List.cons_append, List.nil_append]
    refine go ?_
    refine Ops.del rfl rfl hf u3 ?_
    refine go ?_
    refine Run.ret1 Tryz.func37 rfl rfl (fun h q => ?_) ⟨by rw [he], by rw [he]⟩
    have q1 := (Take.cons s0 (.cons s1 .nil)).sound q
    have q2 : seps (tabC tb v m S.next :: VolP v d (letAll V x.maps) :: .pt m (.map (mapDel es (some (fr, ptr (adr pid)))).toArray ck) :: (adel S.list pid).map (nodeA ProcI adr)) h := seps_cons (fun h q => seps_cons (fun h q => seps_tail q) q) q1
    have q3 := seps_comm (A := [tabC tb v m S.next, VolP v d (letAll V x.maps)]) (B := .pt m (.map (mapDel es (some (fr, ptr (adr pid)))).toArray ck) :: (adel S.list pid).map (nodeA ProcI adr)) h q2
    have q4 := pm_del hdel h q3
    exact fold_app (I := TabI tb v { S with list := adel S.list pid }) (R := [VolP v d (letAll V x.maps)]) ⟨m, adr, rfl⟩ h (seps_swap q4)

theorem proc_Reset (tb v v2 : Nat) (S : TabS) (F : Hp) : Spec Tryz.prog 39 [ptr tb, .iface 26 (ptr v2)].toArray F [TabP tb v S] fun u H => u = .tuple [].toArray ∧ H = [TabP tb v2 { S with list := [] }] := by
  refine Spec.enterC (n := 12) Tryz.func39 rfl (by simp) (by kernel_rfl) fun ec hc => ?_
  cbv at hc
  injection hc with hc
  subst hc
  simp only [argFr, Nat.reduceAdd]
  refine Run.open_ s0 fun G hG => ?_
  obtain ⟨m, adr, rfl⟩ := hG
  simp only [List.cons_append, List.nil_append]
  refine go ?_
  refine Ops.mkm fun m2 => ?_
  refine go ?_
  refine Run.done0 Tryz.func39 rfl (fun h q => ?_) ⟨rfl, rfl⟩
  exact fold_app (I := TabI tb v2 { S with list := [] }) (R := []) ⟨m2, fun _ => 0, rfl⟩ h ((Take.cons s1 (.cons s0 .nil)).sound q |> fun q => seps_cons (fun h q => pm_new h (take_sub (.cons s0 .nil) h q)) q)

theorem proc_List (tb v : Nat) (S : TabS) (M : Nat) (hS : S.Ok M) (hl : S.list.length ≤ 1000000) (F : Hp) :
    Spec Tryz.prog 38 [ptr tb].toArray F [TabP tb v S] fun u H => ∃ a c, u = .slice a S.list.length c ∧ H = [OwnS a S.list.length c 1 3 ((sortI (S.list.map Prod.fst)).map encI), TabP tb v S] := by
  refine Spec.enterC (n := 9) Tryz.func38 rfl (by simp) (by kernel_rfl) fun ec hc => ?_
  cbv at hc
  injection hc with hc
  subst hc
  simp only [argFr, Nat.reduceAdd]
  refine Run.open_ s0 fun G hG => ?_
  obtain ⟨m, adr, rfl⟩ := hG
  simp only [List.cons_append, List.nil_append]
  refine Run.conseq (H' := PM encI ProcI m adr S.list :: [tabC tb v m S.next]) (fun h q => seps_swap q) ?_
  refine Run.pmOpen fun es ck h1 => ?_
  refine Run.conseq (H' := tabC tb v m S.next :: .pt m (.map es.toArray ck) :: S.list.map (nodeA ProcI adr)) (fun h q => seps_comm (A := .pt m (.map es.toArray ck) :: S.list.map (nodeA ProcI adr)) h q) ?_
  have hb : ∀ x ∈ S.list.map (encA adr), -9223372036854775808 ≤ x.1 ∧ x.1 < 9223372036854775808 := by
    intro x hx
    obtain ⟨y, hy, rfl⟩ := List.mem_map.1 hx
    have h2 := hS.keys y.1 y.2 (mem_aget h1.keysA hy)
    have h3 := hS.next
    have h4 := hS.great
    show -9223372036854775808 ≤ y.1 ∧ y.1 < 9223372036854775808
    omega
  refine go ?_
  refine Ops.call1 rfl .nil (fun F' e kn => keys_proc (some m) F') ?_
  rintro u G ⟨b, rfl, rfl⟩
  simp only [List.cons_append, List.nil_append]
  refine Ops.call1 rfl .nil (fun F' e kn => sorted_proc m b es ck _ h1 (by rw [List.length_map]; exact hl) hb F' (kn _ _ m0) (kn _ _ m2)) ?_
  rintro u G ⟨a, c, rfl, rfl⟩
  rw [fst_encA, List.length_map]
  simp only [List.cons_append, List.nil_append]
  refine go ?_
  refine Run.ret1 Tryz.func38 rfl rfl (H' := [OwnS a S.list.length c 1 3 ((sortI (S.list.map Prod.fst)).map encI), TabP tb v S]) (fun h q => ?_) ⟨a, c, rfl, rfl⟩
  refine seps_cons (fun h q => ?_) q
  have q1 := seps_tail q
  have q2 := seps_comm (A := [tabC tb v m S.next]) h q1
  have q3 := pm_close h1 h q2
  exact fold_app (I := TabI tb v S) (R := []) ⟨m, adr, rfl⟩ h (seps_swap q3)
end Eng
end Go.Proofs.YtnfomoeicgdkkaaGreatDoor

/- Something runs: Spawn, Kill, Pick, Map. -/
set_option linter.unusedSimpArgs false
set_option linter.unusedVariables false
set_option maxRecDepth 1000000
namespace Go.Proofs.YtnfomoeicgdkkaaGreatDoor

theorem holdAll_cons (V : VolS) (s : Bytes) (r : List Bytes) (acc : List Int) : holdAll V (s :: r) acc = if (V.hold s).1.2 = 0 then holdAll (V.hold s).2 r (acc ++ [(V.hold s).1.1]) else ((V.hold s).1.2, acc, (V.hold s).2) := rfl

namespace Eng
attribute [local irreducible] Ops Segs Run Spec

set_option maxHeartbeats 1000000 in
theorem proc_Spawn (tb v d : Nat) (S : TabS) (V : VolS) (N B M : Nat) (hS : S.Ok M) (hM : M < 1000000000) (hV : V.Holds N B) (hB : B + 100 ≤ 1000000000) (unit : Bytes) (x : Value) (paths : List Bytes) (F : Hp) (g : Glob F) (hx : RdTs F x paths) (hl : paths.length ≤ 1000000000000) :
    Spec Tryz.prog 34 [ptr tb, sv unit, x].toArray F [TabP tb v S, VolP v d V] fun u H =>
      u = .tuple [.int .i64 (S.spawn V unit paths).1.1, .int .i64 (S.spawn V unit paths).1.2].toArray ∧ H = [TabP tb v (S.spawn V unit paths).2.1, VolP v d (S.spawn V unit paths).2.2] := by
  have hs : S.spawn V unit paths = if 8 < paths.length then ((0, 22), S, V) else if 32 ≤ S.list.length then ((0, 7), S, V) else
    if (holdAll V paths []).1 ≠ 0 then ((0, (holdAll V paths []).1), S, letAll (holdAll V paths []).2.2 (holdAll V paths []).2.1)
    else ((S.next, 0), ⟨aput S.list S.next ⟨S.next, unit, (holdAll V paths []).2.1, false⟩, S.next + 1⟩, (holdAll V paths []).2.2) := rfl
  obtain ⟨oa, oc, rfl, hrd⟩ := hx
  have hnx := hS.next
  have hnew : aget S.list S.next = none := by
    cases e : aget S.list S.next with
    | none => rfl
    | some y => have := (hS.keys _ _ e).2.1; omega
  have hnI : 0 ≤ S.next ∧ S.next ≤ 1000000000 := by omega
  refine Spec.enterC (n := 67) Tryz.func34 rfl (by simp) (by kernel_rfl) fun ec hc => ?_
  cbv at hc
  injection hc with hc
  subst hc
  simp only [argFr, Nat.reduceAdd]
  refine Run.open_ s0 fun G hG => ?_
  obtain ⟨m, adr, rfl⟩ := hG
  have fold : ∀ (V' : VolS) h, seps [tabC tb v m S.next, PM encI ProcI m adr S.list, VolP v d V'] h → seps [TabP tb v S, VolP v d V'] h :=
    fun V' h q => fold_app (I := TabI tb v S) (R := [VolP v d V']) ⟨m, adr, rfl⟩ h q
  simp only [List.cons_append, List.nil_append]
  refine go ?_
  refine Run.condD rfl (fun h8 => ?_) (fun h8 => ?_)
  · rw [if_pos (by omega)] at hs
    refine go ?_
    exact Run.ret2 Tryz.func34 rfl rfl rfl (fun h q => fold V h q) ⟨by rw [hs], by rw [hs]⟩
  rw [if_neg (by omega)] at hs
  refine Run.conseq (H' := PM encI ProcI m adr S.list :: [tabC tb v m S.next, VolP v d V]) (fun h q => seps_swap q) ?_
  refine Run.pmOpen fun es ck h1 => ?_
  refine Run.conseq (H' := tabC tb v m S.next :: VolP v d V :: .pt m (.map es.toArray ck) :: S.list.map (nodeA ProcI adr)) (fun h q => seps_comm (A := .pt m (.map es.toArray ck) :: S.list.map (nodeA ProcI adr)) h q) ?_
  refine go ?_
  refine Ops.lenm rfl m2 ?_
  rw [show es.length = S.list.length by rw [h1.len, List.length_map]]
  refine go ?_
  refine Run.condD rfl (fun h32 => ?_) (fun h32 => ?_)
  · rw [if_pos (by omega)] at hs
    refine go ?_
    refine Run.ret2 Tryz.func34 rfl rfl rfl (fun h q => fold V h ?_) ⟨by rw [hs], by rw [hs]⟩
    have q1 := seps_comm (A := [tabC tb v m S.next, VolP v d V]) (B := .pt m (.map es.toArray ck) :: S.list.map (nodeA ProcI adr)) h q
    exact seps_swap (pm_close h1 h q1)
  rw [if_neg (by omega)] at hs
  refine Run.conseq (H' := [PM encI ProcI m adr S.list, tabC tb v m S.next, VolP v d V]) (fun h q => pm_close h1 h (seps_comm (A := [tabC tb v m S.next, VolP v d V]) (B := .pt m (.map es.toArray ck) :: S.list.map (nodeA ProcI adr)) h q)) ?_
  clear h1
  refine go ?_
  refine Ops.bld [.int .i64 S.next, sv unit, .slice none 0 0, .bool false] rfl rfl ?_
  refine Ops.box (vs := [.int .i64 S.next, sv unit, .slice none 0 0, .bool false]) rfl rfl fun p => ?_
  refine go1 ?_
  refine Ops.nil (Segs.nil ?_)
  refine Run.conseq (H' := [tabC tb v m S.next, grp (ProcI ⟨S.next, unit, [], false⟩ p), VolP v d V, PM encI ProcI m adr S.list]) (fun h q => ?_) ?_
  · have q1 := (Take.cons s2 (.cons s0 (.cons s1 (.cons s0 .nil)))).sound q
    refine seps_cons (fun h q => fold_app (I := ProcI ⟨S.next, unit, [], false⟩ p) (R := [VolP v d V, PM encI ProcI m adr S.list]) ⟨none, 0, rfl⟩ h ?_) q1
    exact seps_cons (fun h q => own_new h q) q
  refine go ?_
  refine Run.loopI (ι := Nat × List Int × VolS) (fun y => paths.length - y.1) (fun y => y.1 ≤ paths.length ∧ y.2.1.length = y.1 ∧ y.2.2.Holds N (B + y.1) ∧ holdAll V paths [] = holdAll y.2.2 (paths.drop y.1) y.2.1)
    (fun y => [(32, .int .i64 y.1), (31, .int .i64 paths.length), (30, .slice oa paths.length oc), (8, ptr p), (0, ptr tb)])
    (fun y => [tabC tb v m S.next, grp (ProcI ⟨S.next, unit, y.2.1, false⟩ p), VolP v d y.2.2, PM encI ProcI m adr S.list]) (0, [], V) ⟨Nat.zero_le _, rfl, hV, rfl⟩ (.cons rfl (.cons rfl (.cons rfl (.cons rfl (.cons rfl .nil))))) (fun _ h => h) ?_
  rintro ⟨i, acc, Vi⟩ ⟨hi, hacc, hVi, hall⟩ ih
  have ihn := ih
  clear ih
  dsimp only at hi hacc hVi hall ihn ⊢
  refine go ?_
  refine Run.condD rfl (fun hlt => ?_) (fun hge => ?_)
  · have hlt' : i < paths.length := by omega
    have hget : paths.drop i = paths[i] :: paths.drop (i + 1) := List.drop_eq_getElem_cons hlt'
    have hel : paths[i]? = some paths[i] := List.getElem?_eq_getElem hlt'
    rcases hrd with hrd | ⟨b, o, L, T, fz, rfl, hF, hrd⟩
    · rw [hrd] at hlt'; simp at hlt'
    have hcell := hrd i _ hel
    rw [hget, holdAll_cons] at hall
    generalize paths[i] = s at *
    refine go ?_
    refine Ops.ixS rfl rfl ⟨by omega, by omega⟩ ?_
    refine Ops.ldF rfl hF (by rw [Int.toNat_natCast, Nat.mul_one]; exact hcell) ?_
    refine go ?_
    refine Ops.call1 rfl (.cons s0 (.cons s0 (.cons s0 .nil))) (fun F' e kn => proc_hold tb p v d ⟨S.next, unit, acc, false⟩ Vi m S.next N (B + i) hVi (by omega) s (by dsimp only; omega) F' (g.ext e)) ?_
    rintro u G ⟨rfl, rfl⟩
    simp only [List.cons_append, List.nil_append]
    have htk : ProcS.take ⟨S.next, unit, acc, false⟩ Vi s = if (Vi.hold s).1.2 = 0 then ⟨S.next, unit, acc ++ [(Vi.hold s).1.1], false⟩ else ⟨S.next, unit, acc, false⟩ := rfl
    rw [htk]
    have hVn := hVi.hold s
    refine go ?_
    by_cases h0 : (Vi.hold s).1.2 = 0
    · rw [if_pos h0] at hall
      rw [if_pos h0]
      refine Run.condF (by simp [get, look, h0]) ?_
      refine go ?_
      exact Run.lp (Run.again (ihn (i + 1, acc ++ [(Vi.hold s).1.1], (Vi.hold s).2) (by dsimp only; omega) ⟨by dsimp only; omega, by simp [hacc], hVn, hall⟩) (.cons rfl (.cons rfl (.cons rfl (.cons rfl (.cons rfl .nil))))) (fun h q => q))
    · rw [if_neg h0] at hall
      rw [if_neg h0]
      refine Run.condT (by simp [get, look, h0]) ?_
      refine go ?_
      refine Ops.callE1 [tabC tb v m S.next, grp (ProcI ⟨S.next, unit, acc, false⟩ p), VolP v d (Vi.hold s).2] [PM encI ProcI m adr S.list] rfl (fun h q => q) (fun F' e kn => proc_free tb p v d ⟨S.next, unit, acc, false⟩ (Vi.hold s).2 m S.next N (B + i + 1) hVn (by omega) (by dsimp only; omega) F') ?_
      rintro u G ⟨rfl, rfl⟩
      simp only [List.cons_append, List.nil_append]
      rw [hall] at hs
      dsimp only at hs
      rw [if_pos h0] at hs
      refine go ?_
      refine Run.ret2 Tryz.func34 rfl rfl rfl (H' := [TabP tb v S, VolP v d (letAll (Vi.hold s).2 acc)]) (fun h q => ?_) ?_
      · exact fold (letAll (Vi.hold s).2 acc) h (take_sub (.cons s0 (.cons s2 (.cons s1 .nil))) h q)
      · exact ⟨by rw [hs], by rw [hs]⟩
  · have hie : i = paths.length := by omega
    subst hie
    rw [List.drop_length] at hall
    have hall : holdAll V paths [] = (0, acc, Vi) := hall
    rw [hall] at hs
    dsimp only at hs
    rw [if_neg (by simp)] at hs
    refine Run.exit rfl ?_
    refine Run.conseq (H' := PM encI ProcI m adr S.list :: grp (ProcI ⟨S.next, unit, acc, false⟩ p) :: [tabC tb v m S.next, VolP v d Vi]) (fun h q => (Take.cons s3 (.cons s1 .nil)).sound q) ?_
    refine Run.pmNo same_i hnew fun es ck h1 hf hput => ?_
    refine Run.conseq (H' := grp (ProcI ⟨S.next, unit, acc, false⟩ p) :: tabC tb v m S.next :: VolP v d Vi :: .pt m (.map es.toArray ck) :: S.list.map (nodeA ProcI adr)) (fun h q => seps_comm (A := .pt m (.map es.toArray ck) :: S.list.map (nodeA ProcI adr)) (B := [grp (ProcI ⟨S.next, unit, acc, false⟩ p), tabC tb v m S.next, VolP v d Vi]) h q) ?_
    refine Run.open_ s0 fun G hG => ?_
    have hG' := hG
    obtain ⟨pa, pc, rfl⟩ := hG
    simp only [List.cons_append, List.nil_append]
    refine go ?_
    refine Segs.lend [_, _] (.cons s0 (.cons s1 .nil)) fun F2 x2 k2 => ?_
    refine go1 ?_
    refine Ops.ldF rfl (k2 _ _ m1) rfl ?_
    refine Ops.ldF rfl (k2 _ _ m0) rfl ?_
    refine go1 ?_
    refine Ops.nil (Segs.oneS rfl ?_)
    simp only [List.cons_append, List.nil_append]
    refine Ops.mup rfl rfl rfl hf u4 ?_
    refine go ?_
    refine Run.ret2 Tryz.func34 rfl rfl rfl (H' := [TabP tb v (S.spawn V unit paths).2.1, VolP v d (S.spawn V unit paths).2.2]) (fun h q => ?_) ⟨by rw [hs], rfl⟩
    rw [hs]
    dsimp only
    have q1 : seps ([procC p ⟨S.next, unit, acc, false⟩ pa pc, tabC tb v m (S.next + 1), OwnS pa acc.length pc 1 3 (acc.map encI), VolP v d Vi] ++ (.pt m (.map (mapPut es ck (encI S.next) (ptr p) none).toArray (mapClock ck none)) :: S.list.map (nodeA ProcI adr))) h := q
    have q2 := (Take.cons s0 (.cons s1 .nil)).sound (H := [procC p ⟨S.next, unit, acc, false⟩ pa pc, tabC tb v m (S.next + 1), OwnS pa acc.length pc 1 3 (acc.map encI), VolP v d Vi] ++ (.pt m (.map (mapPut es ck (encI S.next) (ptr p) none).toArray (mapClock ck none)) :: S.list.map (nodeA ProcI adr))) q1
    have q3 := fold_app (I := ProcI ⟨S.next, unit, acc, false⟩ p) (R := [tabC tb v m (S.next + 1), VolP v d Vi] ++ (.pt m (.map (mapPut es ck (encI S.next) (ptr p) none).toArray (mapClock ck none)) :: S.list.map (nodeA ProcI adr))) ⟨pa, pc, rfl⟩ h q2
    have q4 := seps_cons (fun h q => seps_comm (A := [tabC tb v m (S.next + 1), VolP v d Vi]) h q) q3
    have hno : adel S.list S.next = S.list := adel_none (aget_none.1 hnew)
    have q5 : seps (grp (ProcI ⟨S.next, unit, acc, false⟩ p) :: .pt m (.map (mapPut es ck (encI S.next) (ptr p) none).toArray (mapClock ck none)) :: ((adel S.list S.next).map (nodeA ProcI adr) ++ [tabC tb v m (S.next + 1), VolP v d Vi])) h := by rw [hno]; exact q4
    have q6 := pm_put (hput (ptr p)) ⟨S.next, unit, acc, false⟩ h q5
    exact fold_app (I := TabI tb v ⟨aput S.list S.next ⟨S.next, unit, acc, false⟩, S.next + 1⟩) (R := [VolP v d Vi]) ⟨m, _, rfl⟩ h (seps_swap q6)
end Eng
end Go.Proofs.YtnfomoeicgdkkaaGreatDoor

/- What runs is asked to end; goes on; is looked at. -/
set_option linter.unusedSimpArgs false
set_option linter.unusedVariables false
set_option maxRecDepth 1000000
namespace Go.Proofs.YtnfomoeicgdkkaaGreatDoor
namespace Eng
attribute [local irreducible] Ops Segs Run Spec

theorem proc_Kill (tb v : Nat) (S : TabS) (pid : Int) (F : Hp) : Spec Tryz.prog 35 [ptr tb, .int .i64 pid].toArray F [TabP tb v S] fun u H => u = .int .i64 (S.kill pid).1 ∧ H = [TabP tb v (S.kill pid).2] := by
  refine Spec.enterC (n := 17) Tryz.func35 rfl (by simp) (by kernel_rfl) fun ec hc => ?_
  cbv at hc
  injection hc with hc
  subst hc
  simp only [argFr, Nat.reduceAdd]
  refine Run.open_ s0 fun G hG => ?_
  obtain ⟨m, adr, rfl⟩ := hG
  simp only [List.cons_append, List.nil_append]
  refine Run.conseq (H' := PM encI ProcI m adr S.list :: [tabC tb v m S.next]) (fun h q => seps_swap q) ?_
  cases hk : aget S.list pid with
  | none =>
    have he : S.kill pid = (8, S) := by unfold TabS.kill; rw [hk]
    refine Run.pmNo same_i hk fun es ck h1 hf hput => ?_
    refine Run.conseq (H' := .pt m (.map es.toArray ck) :: tabC tb v m S.next :: S.list.map (nodeA ProcI adr)) (fun h q => seps_cons (fun h q => seps_comm (A := S.list.map (nodeA ProcI adr)) h q) q) ?_
    refine go ?_
    refine Ops.lkp rfl rfl m0 hf ?_
    refine go ?_
    refine Run.condT rfl ?_
    refine go ?_
    refine Run.ret1 Tryz.func35 rfl rfl (fun h q => ?_) ⟨by rw [he], by rw [he]⟩
    have q1 := seps_cons (fun h q => seps_comm (A := [tabC tb v m S.next]) (B := S.list.map (nodeA ProcI adr)) h q) q
    exact fold_app (I := TabI tb v S) (R := []) ⟨m, adr, rfl⟩ h (seps_swap (pm_close h1 h q1))
  | some x =>
    have he : S.kill pid = (0, { S with list := aput S.list pid { x with ending := true } }) := by unfold TabS.kill; rw [hk]
    refine Run.pmAt same_i hk fun es ck fr h1 hf hdel hput => ?_
    refine Run.open_ s0 fun G hG => ?_
    obtain ⟨pa, pc, rfl⟩ := hG
    refine Run.conseq (H' := procC (adr pid) x pa pc :: tabC tb v m S.next :: .pt m (.map es.toArray ck) :: OwnS pa x.maps.length pc 1 3 (x.maps.map encI) :: (adel S.list pid).map (nodeA ProcI adr)) (fun h q => ?_) ?_
    · have q1 := seps_cons (fun h q => seps_cons (fun h q => seps_cons (fun h q => seps_comm (A := (adel S.list pid).map (nodeA ProcI adr)) (B := [tabC tb v m S.next]) h q) q) q) q
      exact (Take.cons s0 (.cons s2 (.cons s1 (.cons s0 .nil)))).sound q1
    refine go ?_
    refine Ops.lkp rfl rfl m2 hf ?_
    refine go ?_
    refine Run.condF rfl ?_
    refine go ?_
    refine Run.ret1 Tryz.func35 rfl rfl (fun h q => ?_) ⟨by rw [he], by rw [he]⟩
    have q1 := (Take.cons s0 (.cons s2 (.cons s1 (.cons s0 .nil)))).sound q
    have q2 := fold_app (I := ProcI { x with ending := true } (adr pid)) (G := [procC (adr pid) { x with ending := true } pa pc, OwnS pa x.maps.length pc 1 3 (x.maps.map encI)]) ⟨pa, pc, rfl⟩ h q1
    have q3 := seps_cons (fun h q => seps_cons (fun h q => seps_comm (A := [tabC tb v m S.next]) h q) q) q2
    exact fold_app (I := TabI tb v { S with list := aput S.list pid { x with ending := true } }) (R := []) ⟨m, adr, rfl⟩ h (seps_swap (pm_set h1 hk { x with ending := true } h q3))

theorem proc_Pick (tb v d : Nat) (S : TabS) (V : VolS) (N B M : Nat) (hS : S.Ok M) (hV : V.Holds N B) (hB : B ≤ 1000000000) (pid : Int) (F : Hp) :
    Spec Tryz.prog 36 [ptr tb, .int .i64 pid].toArray F [TabP tb v S, VolP v d V] fun u H => u = .tuple [.bool (S.pick V pid).1.1, .int .i64 (S.pick V pid).1.2].toArray ∧ H = [TabP tb v (S.pick V pid).2.1, VolP v d (S.pick V pid).2.2] := by
  refine Spec.enterC (n := 23) Tryz.func36 rfl (by simp) (by kernel_rfl) fun ec hc => ?_
  cbv at hc
  injection hc with hc
  subst hc
  simp only [argFr, Nat.reduceAdd]
  refine Run.open_ s0 fun G hG => ?_
  obtain ⟨m, adr, rfl⟩ := hG
  simp only [List.cons_append, List.nil_append]
  refine Run.conseq (H' := PM encI ProcI m adr S.list :: [tabC tb v m S.next, VolP v d V]) (fun h q => seps_swap q) ?_
  cases hk : aget S.list pid with
  | none =>
    have he : S.pick V pid = ((false, 8), S, V) := by unfold TabS.pick; rw [hk]
    refine Run.pmNo same_i hk fun es ck h1 hf hput => ?_
    refine Run.conseq (H' := .pt m (.map es.toArray ck) :: tabC tb v m S.next :: VolP v d V :: S.list.map (nodeA ProcI adr)) (fun h q => seps_cons (fun h q => seps_comm (A := S.list.map (nodeA ProcI adr)) h q) q) ?_
    refine go ?_
    refine Ops.lkp rfl rfl m0 hf ?_
    refine go ?_
    refine Run.condT rfl ?_
    refine go ?_
    refine Run.ret2 Tryz.func36 rfl rfl rfl (fun h q => ?_) ⟨by rw [he], by rw [he]⟩
    have q1 := seps_cons (fun h q => seps_comm (A := [tabC tb v m S.next, VolP v d V]) (B := S.list.map (nodeA ProcI adr)) h q) q
    exact fold_app (I := TabI tb v S) (R := [VolP v d V]) ⟨m, adr, rfl⟩ h (seps_swap (pm_close h1 h q1))
  | some x =>
    refine Run.pmAt same_i hk fun es ck fr h1 hf hdel hput => ?_
    refine Run.open_ s0 fun G hG => ?_
    obtain ⟨pa, pc, rfl⟩ := hG
    refine Run.conseq (H' := procC (adr pid) x pa pc :: tabC tb v m S.next :: .pt m (.map es.toArray ck) :: VolP v d V :: OwnS pa x.maps.length pc 1 3 (x.maps.map encI) :: (adel S.list pid).map (nodeA ProcI adr)) (fun h q => ?_) ?_
    · have q1 := seps_cons (fun h q => seps_cons (fun h q => seps_cons (fun h q => seps_comm (A := (adel S.list pid).map (nodeA ProcI adr)) (B := [tabC tb v m S.next, VolP v d V]) h q) q) q) q
      exact (Take.cons s0 (.cons s2 (.cons s1 (.cons s1 (.cons s0 .nil))))).sound q1
    have back : ∀ h, seps (procC (adr pid) x pa pc :: tabC tb v m S.next :: .pt m (.map es.toArray ck) :: VolP v d V :: OwnS pa x.maps.length pc 1 3 (x.maps.map encI) :: (adel S.list pid).map (nodeA ProcI adr)) h → seps [TabP tb v S, VolP v d V] h := by
      intro h q
      have q1 := (Take.cons s0 (.cons s3 (.cons s1 (.cons s0 .nil)))).sound q
      have q2 := fold_app (I := ProcI x (adr pid)) (G := [procC (adr pid) x pa pc, OwnS pa x.maps.length pc 1 3 (x.maps.map encI)]) ⟨pa, pc, rfl⟩ h q1
      have q3 : seps (grp (ProcI x (adr pid)) :: .pt m (.map es.toArray ck) :: ([tabC tb v m S.next, VolP v d V] ++ (adel S.list pid).map (nodeA ProcI adr))) h := q2
      have q4 := seps_cons (fun h q => seps_cons (fun h q => seps_comm (A := [tabC tb v m S.next, VolP v d V]) h q) q) q3
      exact fold_app (I := TabI tb v S) (R := [VolP v d V]) ⟨m, adr, rfl⟩ h (seps_swap (pm_shut h1 hk h q4))
    refine go ?_
    refine Ops.lkp rfl rfl m2 hf ?_
    refine go ?_
    refine Run.condF rfl ?_
    refine go ?_
    cases hen : x.ending with
    | false =>
      have he : S.pick V pid = ((false, 0), S, V) := by unfold TabS.pick; rw [hk]; dsimp only; rw [if_pos hen]
      refine Run.condT rfl ?_
      refine go ?_
      exact Run.ret2 Tryz.func36 rfl rfl rfl (fun h q => back h (by first | exact q | (simpa [procC, hen] using q))) ⟨by rw [he], by rw [he]⟩
    | true =>
      have he : S.pick V pid = ((true, (S.exit V pid).1), (S.exit V pid).2) := by unfold TabS.pick; rw [hk]; dsimp only; rw [if_neg (by rw [hen]; simp)]
      refine Run.condF rfl ?_
      refine Run.conseq (H' := [TabP tb v S, VolP v d V]) (fun h q => back h (by first | exact q | (simpa [procC, hen] using q))) ?_
      refine go ?_
      refine Ops.call1 rfl (.cons s0 (.cons s0 .nil)) (fun F' e kn => proc_Exit tb v d S V N B M hS hV hB pid F') ?_
      rintro u G ⟨rfl, rfl⟩
      simp only [List.cons_append, List.nil_append]
      refine go ?_
      exact Run.ret2 Tryz.func36 rfl rfl rfl (fun h q => q) ⟨by rw [he], by rw [he]⟩
end Eng
end Go.Proofs.YtnfomoeicgdkkaaGreatDoor

/- What runs is looked at. -/
set_option linter.unusedSimpArgs false
set_option linter.unusedVariables false
set_option maxRecDepth 1000000
namespace Go.Proofs.YtnfomoeicgdkkaaGreatDoor
namespace Eng

theorem RdE.shows {α : Type} {enc : α → Value} {F : Hp} {v : Value} {zs : List α} (h : RdE enc F v zs) {H : List HA} : ∀ w h, seps H h → Fits F h w → Eng.shows w 1 zs.length v (zs.map enc) := by
  intro w hh q f
  obtain ⟨a, c, rfl, h0 | ⟨b, o, L, T, fz, rfl, hF, hr⟩⟩ := h
  · subst h0
    cases a <;> simp [Eng.shows]
  · have hle : o + zs.length ≤ L.length ∨ zs = [] := by
      cases hz : zs.length with
      | zero => exact .inr (List.length_eq_zero_iff.1 hz)
      | succ n =>
        left
        have hl : zs[n]? = some zs[n] := List.getElem?_eq_getElem (by omega)
        have := hr n _ hl
        rcases Nat.lt_or_ge (o + n) L.length with g | g
        · omega
        · rw [List.getElem?_eq_none g] at this; cases this
    rcases hle with hle | hz
    · refine .inr ⟨rfl, L, T, fz, f.frm _ _ hF, by rw [Nat.mul_one]; exact hle, ?_⟩
      rw [Nat.mul_one]
      apply List.ext_getElem?
      intro i
      rw [List.getElem?_map, List.getElem?_take, List.getElem?_drop]
      by_cases hi : i < zs.length
      · rw [if_pos hi, List.getElem?_eq_getElem hi]
        exact (hr i _ (List.getElem?_eq_getElem hi)).symm
      · rw [if_neg hi, List.getElem?_eq_none (by omega)]; rfl
    · subst hz
      exact .inl ⟨rfl, rfl⟩

theorem proc_agg : aggOf Tryz.prog 183 = some true := by kernel_rfl
theorem proc_info : ∃ i, Tryz.prog.info? 183 = some i ∧ i.size = 4 := by
  have h : (Tryz.prog.info? 183).map (·.size) = some 4 := by kernel_rfl
  cases e : Tryz.prog.info? 183 with
  | none => rw [e] at h; cases h
  | some i => rw [e] at h; exact ⟨i, rfl, by simpa using h⟩

/-- a copy of what runs -/
def procV (x : ProcS) (ma : Option Addr) (mc : Nat) : Value := .agg [.int .i64 x.pid, sv x.unit, .slice ma x.maps.length mc, .bool x.ending].toArray
def zeroP : ProcS := ⟨0, [], [], false⟩

attribute [local irreducible] Ops Segs Run Spec

theorem slices_Clone_int (v : Value) (zs : List Int) (F : Hp) (hv : RdE encI F v zs) (hn : zs.length ≤ 1099511627) : Spec Tryz.prog 176 [v].toArray F [] fun r H => ∃ a c, r = .slice a zs.length c ∧ H = [OwnS a zs.length c 1 3 (zs.map encI)] := by
  have hsh := fun H => hv.shows (H := H)
  obtain ⟨oa, oc, rfl, hbs⟩ := hv
  refine Spec.enterC (n := 8) Tryz.func176 rfl (by simp) (by kernel_rfl) fun ec hc => ?_
  cbv at hc
  injection hc with hc
  subst hc
  simp only [argFr, Nat.reduceAdd]
  refine go ?_
  refine Ops.nilS rfl rfl ?_
  refine go ?_
  cases oa with
  | none =>
    refine Run.condT rfl ?_
    refine go ?_
    have : zs = [] := by
      rcases hbs with h | ⟨b, o, L, T, fz, h, _⟩
      · exact h
      · cases h
    subst this
    exact Run.ret1 Tryz.func176 (H' := [OwnS none 0 0 1 3 []]) rfl rfl (fun h q => own_new h q) ⟨none, 0, rfl, rfl⟩
  | some a =>
    refine Run.condF rfl ?_
    refine go ?_
    refine Ops.lit [] rfl rfl fun b => ?_
    refine Ops.conseq (own_of_pt (n := 0) (s := 1) rfl) (closed_segs closed_run) ?_
    refine go ?_
    refine Ops.app (m := zs.length) (ys := zs.map encI) rfl rfl rfl s0 (hsh _) (fun v hv => by obtain ⟨i, _, rfl⟩ := List.mem_map.1 hv; rfl) (by simp) (by simp) (by omega) fun a' c' => ?_
    simp only [List.nil_append, Nat.zero_add]
    refine go ?_
    exact Run.ret1 Tryz.func176 rfl rfl (fun h q => q) ⟨a', c', rfl, rfl⟩

theorem proc_Get (tb v : Nat) (S : TabS) (M : Nat) (hS : S.Ok M) (pid : Int) (F : Hp) : Spec Tryz.prog 104 [ptr tb, .int .i64 pid].toArray F [TabP tb v S] fun u H =>
    ∃ ma mc, u = .tuple [procV ((aget S.list pid).getD zeroP) ma mc, .bool (aget S.list pid).isSome].toArray ∧ H = [OwnS ma ((aget S.list pid).getD zeroP).maps.length mc 1 3 (((aget S.list pid).getD zeroP).maps.map encI), TabP tb v S] := by
  obtain ⟨inf, hinf, hsz⟩ := proc_info
  refine Spec.enterC (n := 27) Tryz.func104 rfl (by simp) (by kernel_rfl) fun ec hc => ?_
  cbv at hc
  injection hc with hc
  subst hc
  simp only [argFr, Nat.reduceAdd]
  refine Run.open_ s0 fun G hG => ?_
  obtain ⟨m, adr, rfl⟩ := hG
  simp only [List.cons_append, List.nil_append]
  refine Run.conseq (H' := PM encI ProcI m adr S.list :: [tabC tb v m S.next]) (fun h q => seps_swap q) ?_
  cases hk : aget S.list pid with
  | none =>
    refine Run.pmNo same_i hk fun es ck h1 hf hput => ?_
    refine Run.conseq (H' := .pt m (.map es.toArray ck) :: tabC tb v m S.next :: S.list.map (nodeA ProcI adr)) (fun h q => seps_cons (fun h q => seps_comm (A := S.list.map (nodeA ProcI adr)) h q) q) ?_
    refine go ?_
    refine Ops.alloc fun b => ?_
    refine go ?_
    refine Ops.lkp rfl rfl m1 hf ?_
    refine go ?_
    refine Run.condT rfl ?_
    refine go ?_
    refine Ops.bld [.int .i64 0, .string (ByteArray.mk #[]), .slice none 0 0, .bool false] rfl rfl ?_
    refine Ops.stn0 (vs := [.int .i64 0, .string (ByteArray.mk #[]), .slice none 0 0, .bool false]) rfl rfl rfl rfl (by intro v hv; simp at hv; rcases hv with rfl | rfl | rfl | rfl <;> rfl) u0 (by simp) (by simp) ?_
    refine go ?_
    refine Run.ret Tryz.func104 (rs := [.cell 4 183, .tmp 5]) rfl (.celln rfl proc_agg hinf (.inl m0) (by rw [hsz]; exact Nat.le_refl 4) (.tmp rfl .nil)) (H' := [OwnS none 0 0 1 3 [], TabP tb v S]) (fun h q => ?_) ⟨none, 0, ?_, rfl⟩
    · refine own_new h ?_
      have q1 := seps_tail q
      have q2 := seps_cons (fun h q => seps_comm (A := [tabC tb v m S.next]) (B := S.list.map (nodeA ProcI adr)) h q) q1
      exact fold_app (I := TabI tb v S) (R := []) ⟨m, adr, rfl⟩ h (seps_swap (pm_close h1 h q2))
    · rw [hsz]; rfl
  | some x =>
    have hx := (hS.keys pid x hk).2.2.2
    refine Run.pmAt same_i hk fun es ck fr h1 hf hdel hput => ?_
    refine Run.open_ s0 fun G hG => ?_
    obtain ⟨pa, pc, rfl⟩ := hG
    refine Run.conseq (H' := OwnS pa x.maps.length pc 1 3 (x.maps.map encI) :: procC (adr pid) x pa pc :: tabC tb v m S.next :: .pt m (.map es.toArray ck) :: (adel S.list pid).map (nodeA ProcI adr)) (fun h q => ?_) ?_
    · have q1 := seps_cons (fun h q => seps_cons (fun h q => seps_cons (fun h q => seps_comm (A := (adel S.list pid).map (nodeA ProcI adr)) (B := [tabC tb v m S.next]) h q) q) q) q
      exact (Take.cons s1 (.cons s0 (.cons s1 (.cons s0 .nil)))).sound q1
    refine Run.open_ s0 fun G1 hG1 => ?_
    refine Run.conseq (H' := procC (adr pid) x pa pc :: tabC tb v m S.next :: .pt m (.map es.toArray ck) :: ((adel S.list pid).map (nodeA ProcI adr) ++ G1)) (fun h q => seps_comm (A := G1) h q) ?_
    refine go ?_
    refine Ops.alloc fun b => ?_
    refine go ?_
    refine Ops.lkp rfl rfl m3 hf ?_
    refine go ?_
    refine Run.condF rfl ?_
    refine go ?_
    refine Ops.ldn rfl m1 (by simp) ?_
    refine Ops.alloc fun b2 => ?_
    refine Ops.stn0 (vs := [.int .i64 x.pid, sv x.unit, .slice pa x.maps.length pc, .bool x.ending]) rfl rfl rfl rfl (by intro v hv; simp at hv; rcases hv with rfl | rfl | rfl | rfl <;> rfl) u0 (by simp) (by simp) ?_
    refine go ?_
    refine Ops.callE1 [] (G1 ++ (.pt b2 (.cells [.int .i64 x.pid, sv x.unit, .slice pa x.maps.length pc, .bool x.ending].toArray 183 (0, 0)) :: .pt b (.cells [.int .i64 0, .string (ByteArray.mk #[]), .slice none 0 0, .bool false].toArray 183 (0, 0)) :: procC (adr pid) x pa pc :: tabC tb v m S.next :: .pt m (.map es.toArray ck) :: (adel S.list pid).map (nodeA ProcI adr))) rfl (fun h q => ?_) (fun F' e kn => slices_Clone_int _ x.maps F' (hG1.rdE kn.left).2 (by omega)) ?_
    · have q1 : seps ((.pt b2 (.cells [.int .i64 x.pid, sv x.unit, .slice pa x.maps.length pc, .bool x.ending].toArray 183 (0, 0)) :: .pt b (.cells [.int .i64 0, .string (ByteArray.mk #[]), .slice none 0 0, .bool false].toArray 183 (0, 0)) :: procC (adr pid) x pa pc :: tabC tb v m S.next :: .pt m (.map es.toArray ck) :: (adel S.list pid).map (nodeA ProcI adr)) ++ G1) h := q
      exact seps_comm (B := G1) h q1
    rintro u G ⟨a3, c3, rfl, rfl⟩
    refine go1 ?_
    refine Ops.conseq (H' := .pt b2 (.cells [.int .i64 x.pid, sv x.unit, .slice pa x.maps.length pc, .bool x.ending].toArray 183 (0, 0)) :: .pt b (.cells [.int .i64 0, .string (ByteArray.mk #[]), .slice none 0 0, .bool false].toArray 183 (0, 0)) :: OwnS a3 x.maps.length c3 1 3 (x.maps.map encI) :: procC (adr pid) x pa pc :: tabC tb v m S.next :: .pt m (.map es.toArray ck) :: (G1 ++ (adel S.list pid).map (nodeA ProcI adr))) (fun h q => ?_) (closed_segs closed_run) ?_
    · have q1 : seps ([OwnS a3 x.maps.length c3 1 3 (x.maps.map encI)] ++ (G1 ++ ([.pt b2 (.cells [.int .i64 x.pid, sv x.unit, .slice pa x.maps.length pc, .bool x.ending].toArray 183 (0, 0)), .pt b (.cells [.int .i64 0, .string (ByteArray.mk #[]), .slice none 0 0, .bool false].toArray 183 (0, 0)), procC (adr pid) x pa pc, tabC tb v m S.next, .pt m (.map es.toArray ck)] ++ (adel S.list pid).map (nodeA ProcI adr)))) h := q
      have q2 := seps_cons (fun h q => seps_mid (A := G1) h q) q1
      exact (Take.cons s1 (.cons s1 (.cons s0 .nil))).sound q2
    refine go ?_
    refine Ops.ldn rfl m0 (by simp) ?_
    refine Ops.stn0 (vs := [.int .i64 x.pid, sv x.unit, .slice a3 x.maps.length c3, .bool x.ending]) rfl rfl rfl rfl (by intro v hv; simp at hv; rcases hv with rfl | rfl | rfl | rfl <;> rfl) u1 (by simp) (by simp) ?_
    refine go ?_
    refine Run.ret Tryz.func104 (rs := [.cell 4 183, .tmp 5]) rfl (.celln rfl proc_agg hinf (.inl m1) (by rw [hsz]; exact Nat.le_refl 4) (.tmp rfl .nil)) (H' := [OwnS a3 x.maps.length c3 1 3 (x.maps.map encI), TabP tb v S]) (fun h q => ?_) ⟨a3, c3, ?_, rfl⟩
    · have q1 := seps_tail (seps_tail q)
      refine seps_cons (fun h q => ?_) q1
      have q2 : seps ([procC (adr pid) x pa pc, tabC tb v m S.next, .pt m (.map es.toArray ck)] ++ (G1 ++ (adel S.list pid).map (nodeA ProcI adr))) h := q
      have q3 := seps_mid (A := [procC (adr pid) x pa pc, tabC tb v m S.next, .pt m (.map es.toArray ck)]) (B := G1) h q2
      have q4 : seps (OwnS pa x.maps.length pc 1 3 (x.maps.map encI) :: (procC (adr pid) x pa pc :: tabC tb v m S.next :: .pt m (.map es.toArray ck) :: (adel S.list pid).map (nodeA ProcI adr))) h := fold_app (I := OwnI pa x.maps.length pc 1 3 (x.maps.map encI)) hG1 h q3
      have q5 := fold_app (I := ProcI x (adr pid)) (G := [procC (adr pid) x pa pc, OwnS pa x.maps.length pc 1 3 (x.maps.map encI)]) ⟨pa, pc, rfl⟩ h (seps_swap q4)
      have q6 := (Take.cons s0 (.cons s1 .nil)).sound q5
      have q7 : seps (grp (ProcI x (adr pid)) :: .pt m (.map es.toArray ck) :: ([tabC tb v m S.next] ++ (adel S.list pid).map (nodeA ProcI adr))) h := q6
      have q8 := seps_cons (fun h q => seps_cons (fun h q => seps_comm (A := [tabC tb v m S.next]) h q) q) q7
      exact fold_app (I := TabI tb v S) (R := []) ⟨m, adr, rfl⟩ h (seps_swap (pm_shut h1 hk h q8))
    · rw [hsz]; rfl
end Eng
end Go.Proofs.YtnfomoeicgdkkaaGreatDoor

/- farrierlaw08: a volume with some files. -/
set_option linter.unusedSimpArgs false
set_option linter.unusedVariables false
set_option maxRecDepth 1000000
namespace Go.Proofs.YtnfomoeicgdkkaaGreatDoor

def ops8 : List OpS := [⟨2, [47, 97], [], [97]⟩, ⟨2, [47, 98], [], []⟩, ⟨0, [47, 100], [], []⟩, ⟨2, [47, 100, 47, 99], [], []⟩]
def tree8 : TreeS := (doT (newT 2000) ops8).2
theorem do8 : doT (newT 2000) ops8 = (0, tree8) := by
  have h : (doT (newT 2000) ops8).1 = 0 := by kernel_rfl
  exact Prod.ext h rfl
theorem pack8 : (packOps ops8).length = 75 := by kernel_rfl
theorem loose8 : tree8.loose = [] := by kernel_rfl

theorem packs8 : Eng.Packs ops8 := by
  refine ⟨by decide, fun o ho => ?_⟩
  simp only [ops8, List.mem_cons, List.not_mem_nil, or_false] at ho
  rcases ho with rfl | rfl | rfl | rfl <;> refine ⟨by decide, by decide, by decide, by decide, by decide⟩

/-- a volume that was opened so -/
def vol8 (L : LogS) : VolS := ⟨tree8, L, 2000, [], false⟩

attribute [local irreducible] tree8

theorem sweep_none {V : VolS} (h : V.T.loose = []) : V.sweep.T = V.T := by
  unfold VolS.sweep
  dsimp only
  rw [h]
  rfl

theorem open8 {L : LogS} {D : DiskS} (h : Fine L D [] 1 500) : ∃ L' D', (newV 2000 L).doV D ops8 = (0, vol8 L', D') ∧ (vol8 L').Well D' [2 :: packOps ops8] 7 500 ∧ total [2 :: packOps ops8] = 2 := by
  have well := newV_well (q := 2000) h
  have hdo : doT (newV 2000 L).T ops8 = (0, tree8) := do8
  obtain ⟨e1, e2, e3, e4, e5⟩ := well.doV_ok ops8 (by decide) (by rw [hdo]) (by rw [pack8]; decide) (by rw [pack8]; decide)
  rw [hdo] at e5
  have e6 : ((newV 2000 L).doV D ops8).2.1.T = tree8 := e5.trans (sweep_none (V := { newV 2000 L with T := tree8 }) loose8)
  have e7 := e2.dead
  clear e5 hdo
  generalize (newV 2000 L).doV D ops8 = r at *
  obtain ⟨e, ⟨T, L2, q, hs, dd⟩, D2⟩ := r
  dsimp only at e1 e3 e4 e6 e7
  have e4 : q = 2000 := e4
  have e3 : hs = [] := e3
  subst e1 e3 e4 e6 e7
  refine ⟨L2, D2, rfl, e2, ?_⟩
  simp only [total, List.length_cons, pack8]
  rfl

namespace Eng
attribute [local irreducible] Ops Segs Run Spec

theorem law08_open (F : Hp) (g : Glob F) : Spec Tryz.prog 32 [].toArray F [] fun u H => ∃ v d L D rs, u = ptr v ∧ H = [VolP v d (vol8 L), DiskP d D] ∧ (vol8 L).Well D rs 7 500 ∧ total rs = 2 := by
  refine Spec.enterC (n := 34) Tryz.func32 rfl (by simp) (by kernel_rfl) fun ec hc => ?_
  cbv at hc
  injection hc with hc
  subst hc
  simp only [argFr, Nat.reduceAdd]
  refine go ?_
  refine Ops.call1 rfl .nil (fun F' e kn => disk_New 500 (by omega) F') ?_
  rintro u G ⟨d, rfl, rfl⟩
  simp only [List.cons_append, List.nil_append]
  refine Ops.call1 rfl (.cons s0 .nil) (fun F' e kn => vol_Open_new d 500 2000 (by omega) F') ?_
  rintro u G ⟨v, L, D, rfl, rfl, hfine⟩
  simp only [List.cons_append, List.nil_append]
  have well := newV_well (q := 2000) hfine
  obtain ⟨L3, D3, hdo, hw3, ht3⟩ := open8 hfine
  refine go1 ?_
  refine Ops.nil (Segs.nil ?_)
  refine Run.open_ s0 fun G hG => ?_
  have hG' := hG
  obtain ⟨t, l, r, es, ck, adr, Dp, hm, rfl⟩ := hG
  simp only [List.cons_append]
  refine go ?_
  refine Run.condF rfl ?_
  refine Run.skip ?_
  refine Run.conseq (H' := [VolP v d (newV 2000 L), DiskP d D]) (fun h q => fold_app (I := VolI v d (newV 2000 L)) (R := [DiskP d D]) hG' h q) ?_
  refine go ?_
  refine Ops.lit [.int .u8 97] rfl rfl fun b1 => ?_
  refine Ops.cvLit rfl u0 ?_
  refine Ops.bld (opC 2 [47, 97] [] (.slice (some ⟨b1, 0, none⟩) 1 1)) rfl rfl ?_
  refine Ops.bld (opC 2 [47, 98] [] (.slice none 0 0)) rfl rfl ?_
  refine Ops.bld (opC 0 [47, 100] [] (.slice none 0 0)) rfl rfl ?_
  refine Ops.bld (opC 2 [47, 100, 47, 99] [] (.slice none 0 0)) rfl rfl ?_
  refine Ops.lit (opC 2 [47, 97] [] (.slice (some ⟨b1, 0, none⟩) 1 1) ++ opC 2 [47, 98] [] (.slice none 0 0) ++ opC 0 [47, 100] [] (.slice none 0 0) ++ opC 2 [47, 100, 47, 99] [] (.slice none 0 0)) rfl rfl fun b2 => ?_
  refine Ops.call1 rfl (.cons s2 (.cons s2 .nil)) (fun F' e kn => vol_Do v d (newV 2000 L) D 2 well.inv well.few well.neat rfl well.fine.held.ok (by rw [well.fine.held.cache]; decide) _ ops8 (by decide) (by decide) (fun _ => ⟨packs8, by rw [pack8]; decide⟩) F' (g.ext e)
    ⟨_, _, rfl, .inr ⟨b2, 0, _, _, _, rfl, kn _ _ m0, fun i op hi => ?_⟩⟩) ?_
  · match i, hi with
    | 0, hi => cases hi; exact ⟨_, by simp [opC], rfl, rdB_of (bs := [97]) (o := 0) (kn _ _ m1) (by simp) rfl⟩
    | 1, hi => cases hi; exact ⟨_, by simp [opC], rfl, RdB.nil⟩
    | 2, hi => cases hi; exact ⟨_, by simp [opC], rfl, RdB.nil⟩
    | 3, hi => cases hi; exact ⟨_, by simp [opC], rfl, RdB.nil⟩
    | i + 4, hi => simp [ops8] at hi
  rintro u G ⟨rfl, rfl⟩
  rw [hdo]
  refine go ?_
  refine Run.condF rfl ?_
  refine go ?_
  exact Run.ret1 Tryz.func32 rfl rfl (fun h q => take_sub (.cons s0 (.cons s0 .nil)) h q) ⟨v, d, L3, D3, _, rfl, rfl, hw3, ht3⟩
end Eng
end Go.Proofs.YtnfomoeicgdkkaaGreatDoor

/- farrierlaw08: the document's example. -/
set_option linter.unusedSimpArgs false
set_option linter.unusedVariables false
set_option maxRecDepth 1000000
namespace Go.Proofs.YtnfomoeicgdkkaaGreatDoor

def vol8h (L : LogS) (h : List (Int × Int)) : VolS := ⟨tree8, L, 2000, h, false⟩
theorem spawn81 (L : LogS) : (⟨[], 1⟩ : TabS).spawn (vol8 L) [117] [[47, 97], [47, 100, 47, 99]] = ((1, 0), ⟨[(1, ⟨1, [117], [2, 5], false⟩)], 2⟩, vol8h L [(5, 1), (2, 1)]) := by kernel_rfl
theorem spawn82 (L : LogS) : (⟨[(1, ⟨1, [117], [2, 5], false⟩)], 2⟩ : TabS).spawn (vol8h L [(5, 1), (2, 1)]) [117] [[47, 97], [47, 120]] = ((0, 8), ⟨[(1, ⟨1, [117], [2, 5], false⟩)], 2⟩, vol8h L [(2, 1), (5, 1)]) := by kernel_rfl
theorem pick8 (L : LogS) : (⟨[(1, ⟨1, [117], [2, 5], true⟩)], 2⟩ : TabS).pick (vol8h L [(2, 1), (5, 1)]) 1 = ((true, 0), ⟨[], 2⟩, vol8h L []) := by kernel_rfl
theorem vol8_eq (L : LogS) : vol8 L = vol8h L [] := rfl

theorem tab_ok1 : (⟨[(1, ⟨1, [117], [2, 5], false⟩)], 2⟩ : TabS).Ok 2 := ⟨fun k x h => by
  rw [aget_cons] at h
  split at h
  · rename_i e; cases h; subst e; exact ⟨by decide, by decide, rfl, by decide⟩
  · simp [aget] at h, by decide, by decide⟩
theorem tab_ok2 : (⟨[(1, ⟨1, [117], [2, 5], true⟩)], 2⟩ : TabS).Ok 2 := ⟨fun k x h => by
  rw [aget_cons] at h
  split at h
  · rename_i e; cases h; subst e; exact ⟨by decide, by decide, rfl, by decide⟩
  · simp [aget] at h, by decide, by decide⟩
theorem tab_ok0 {n : Int} (h : 1 ≤ n ∧ n ≤ 1000000) : (⟨[], n⟩ : TabS).Ok 1000000 := ⟨fun k x h => by simp [aget] at h, by omega, by decide⟩

namespace Eng
attribute [local irreducible] Ops Segs Run Spec

theorem law08_alive (F : Hp) (g : Glob F) : Spec Tryz.prog 31 [].toArray F [] fun u H => u = .bool true ∧ H = [] := by
  refine Spec.enterC (n := 111) Tryz.func31 rfl (by simp) (by kernel_rfl) fun ec hc => ?_
  cbv at hc
  injection hc with hc
  subst hc
  simp only [argFr, Nat.reduceAdd]
  refine go ?_
  refine Ops.call1 rfl .nil (fun F' e kn => law08_open F' (g.ext e)) ?_
  rintro u G ⟨v, d, L, D, rs, rfl, rfl, well, _⟩
  simp only [List.cons_append, List.nil_append]
  have holds1 : (vol8 L).Holds 7 10 := ⟨well.inv, well.few, fun i c h => by simp [vol8, aget] at h⟩
  have holds2 := VolS.Holds.mono (B' := 50) (V := vol8h L [(5, 1), (2, 1)]) (N := 7) ⟨well.inv, well.few, fun i c h => by
    unfold vol8h at h
    rw [aget_cons, aget_cons] at h
    split at h
    · cases h; decide
    · split at h
      · cases h; decide
      · simp [aget] at h⟩ (Nat.le_refl 50)
  have holds3 := VolS.Holds.mono (B' := 50) (V := vol8h L [(2, 1), (5, 1)]) (N := 7) ⟨well.inv, well.few, fun i c h => by
    unfold vol8h at h
    rw [aget_cons, aget_cons] at h
    split at h
    · cases h; decide
    · split at h
      · cases h; decide
      · simp [aget] at h⟩ (Nat.le_refl 50)
  refine go ?_
  refine Run.condF rfl ?_
  refine go ?_
  refine Ops.call1 rfl .nil (fun F' e kn => proc_New v F') ?_
  rintro u G ⟨tb, rfl, rfl⟩
  simp only [List.cons_append, List.nil_append]
  refine go ?_
  refine Run.condF rfl ?_
  refine go ?_
  refine Ops.lit [sv [47, 97], sv [47, 100, 47, 99]] rfl rfl fun b1 => ?_
  refine Ops.call1 rfl (.cons s1 (.cons s1 .nil)) (fun F' e kn => proc_Spawn tb v d ⟨[], 1⟩ (vol8 L) 7 10 1000000 (tab_ok0 (by decide)) (by decide) holds1 (by decide) [117] _ [[47, 97], [47, 100, 47, 99]] F' (g.ext e)
    ⟨_, _, rfl, .inr ⟨b1, 0, _, _, _, rfl, kn _ _ m0, fun i x hi => by
      match i, hi with
      | 0, hi => cases hi; rfl
      | 1, hi => cases hi; rfl
      | i + 2, hi => simp at hi⟩⟩ (by decide)) ?_
  rintro u G ⟨rfl, rfl⟩
  rw [spawn81]
  simp only [List.cons_append, List.nil_append]
  refine go ?_
  refine Ops.lit [sv [47, 97], sv [47, 120]] rfl rfl fun b2 => ?_
  refine Ops.call1 rfl (.cons s1 (.cons s1 .nil)) (fun F' e kn => proc_Spawn tb v d _ (vol8h L [(5, 1), (2, 1)]) 7 50 2 tab_ok1 (by decide) holds2 (by decide) [117] _ [[47, 97], [47, 120]] F' (g.ext e)
    ⟨_, _, rfl, .inr ⟨b2, 0, _, _, _, rfl, kn _ _ m0, fun i x hi => by
      match i, hi with
      | 0, hi => cases hi; rfl
      | 1, hi => cases hi; rfl
      | i + 2, hi => simp at hi⟩⟩ (by decide)) ?_
  rintro u G ⟨rfl, rfl⟩
  rw [spawn82]
  simp only [List.cons_append, List.nil_append]
  refine go ?_
  refine Ops.call1 rfl (.cons s1 .nil) (fun F' e kn => vol_Held v d (vol8h L [(2, 1), (5, 1)]) 2 F') ?_
  rintro u G ⟨rfl, rfl⟩
  rw [show (vol8h L [(2, 1), (5, 1)]).held 2 = 1 by rfl]
  simp only [List.cons_append, List.nil_append]
  refine go ?_
  refine Ops.call1 rfl (.cons s1 .nil) (fun F' e kn => proc_Kill tb v ⟨[(1, ⟨1, [117], [2, 5], false⟩)], 2⟩ 1 F') ?_
  rintro u G ⟨rfl, rfl⟩
  rw [show (⟨[(1, ⟨1, [117], [2, 5], false⟩)], 2⟩ : TabS).kill 1 = (0, ⟨[(1, ⟨1, [117], [2, 5], true⟩)], 2⟩) by rfl]
  simp only [List.cons_append, List.nil_append]
  refine go ?_
  refine Ops.call1 rfl (.cons s0 .nil) (fun F' e kn => proc_Get tb v ⟨[(1, ⟨1, [117], [2, 5], true⟩)], 2⟩ 2 tab_ok2 1 F') ?_
  rintro u G ⟨ma, mc, rfl, rfl⟩
  rw [show (aget (⟨[(1, ⟨1, [117], [2, 5], true⟩)], 2⟩ : TabS).list 1) = some ⟨1, [117], [2, 5], true⟩ by rfl]
  simp only [List.cons_append, List.nil_append, Option.getD_some, Option.isSome_some]
  refine go ?_
  refine Ops.alloc fun b3 => ?_
  refine Ops.stn0 (vs := [.int .i64 1, sv [117], .slice ma 2 mc, .bool true]) rfl rfl rfl rfl (by intro v hv; simp at hv; rcases hv with rfl | rfl | rfl | rfl <;> rfl) u0 (by simp) (by simp) ?_
  refine go ?_
  refine Ops.call1 rfl (.cons s2 (.cons s2 .nil)) (fun F' e kn => proc_Pick tb v d ⟨[(1, ⟨1, [117], [2, 5], true⟩)], 2⟩ (vol8h L [(2, 1), (5, 1)]) 7 50 2 tab_ok2 holds3 (by decide) 1 F') ?_
  rintro u G ⟨rfl, rfl⟩
  rw [pick8]
  simp only [List.cons_append, List.nil_append]
  refine go1 ?_
  refine Ops.nil (Segs.nil ?_)
  refine Run.open_ s3 fun G hG => ?_
  obtain ⟨hl, ⟨_, hz, _⟩ | ⟨b4, sp, rfl, hc, hcap, rfl⟩⟩ := hG
  · cases hz
  simp only [List.cons_append, List.nil_append]
  refine go ?_
  simp only [beq_self_eq_true]
  refine go ?_
  refine Ops.ixS rfl rfl (by decide) ?_
  refine go ?_
  refine Ops.call1 rfl (.cons s1 .nil) (fun F' e kn => proc_List tb v ⟨[], 2⟩ 1000000 (tab_ok0 (by decide)) (by decide) F') ?_
  rintro u G ⟨a5, c5, rfl, rfl⟩
  simp only [List.cons_append, List.nil_append]
  refine go ?_
  refine Ops.call1 rfl (.cons s3 .nil) (fun F' e kn => vol_Held v d (vol8h L []) 2 F') ?_
  rintro u G ⟨rfl, rfl⟩
  rw [show (vol8h L []).held 2 = 0 by rfl]
  refine go ?_
  exact Run.ret1 Tryz.func31 rfl rfl (H' := []) (fun h q => trivial) ⟨rfl, rfl⟩
end Eng
end Go.Proofs.YtnfomoeicgdkkaaGreatDoor

/- farrierlaw08: numbers of what runs go on. -/
set_option linter.unusedSimpArgs false
set_option linter.unusedVariables false
set_option maxRecDepth 1000000
namespace Go.Proofs.YtnfomoeicgdkkaaGreatDoor

theorem TabS.Ok.exit {S : TabS} {M : Nat} (h : S.Ok M) (V : VolS) (pid : Int) : (S.exit V pid).2.1.Ok M := by
  unfold TabS.exit
  cases aget S.list pid with
  | none => exact h
  | some x =>
    refine ⟨fun k y hk => ?_, h.next, h.great⟩
    have e : aget (adel S.list pid) k = some y := hk
    rw [aget_adel] at e
    split at e
    · cases e
    · exact h.keys k y e
theorem TabS.Ok.reset {S : TabS} {M : Nat} (h : S.Ok M) : TabS.Ok { S with list := [] } M := ⟨fun k y hk => by simp [aget] at hk, h.next, h.great⟩
theorem TabS.Ok.spawn {S : TabS} {M : Nat} (h : S.Ok M) (hM : M + 1 ≤ 1000000000) (V : VolS) (unit : Bytes) (ps : List Bytes) : (S.spawn V unit ps).2.1.Ok (M + 1) := by
  have hn := h.next
  have m : S.Ok (M + 1) := ⟨h.keys, by omega, hM⟩
  have hl := holdAll_len ps V []
  unfold TabS.spawn
  split
  · exact m
  · rename_i h8
    split
    · exact m
    · split
      · exact m
      · refine ⟨fun k y hk => ?_, by dsimp only; omega, hM⟩
        have e : aget (aput S.list S.next ⟨S.next, unit, (holdAll V ps []).2.1, false⟩) k = some y := hk
        rw [aget_aput] at e
        dsimp only
        split at e
        · rename_i e2
          cases e
          subst e2
          simp only [List.length_nil] at hl
          refine ⟨by omega, by omega, rfl, ?_⟩
          dsimp only
          omega
        · have := h.keys k y e
          omega

/-- nothing that runs has files -/
def TabS.Bare (S : TabS) : Prop := ∀ k x, aget S.list k = some x → x.maps = []
theorem exit_bare {S : TabS} (h : S.Bare) (V : VolS) (pid : Int) : (S.exit V pid).2.2 = V ∧ (S.exit V pid).2.1.Bare ∧ (S.exit V pid).2.1.next = S.next := by
  unfold TabS.exit
  cases hk : aget S.list pid with
  | none => exact ⟨rfl, h, rfl⟩
  | some x =>
    refine ⟨by dsimp only; rw [h _ x hk]; rfl, fun k y hk2 => ?_, rfl⟩
    have e : aget (adel S.list pid) k = some y := hk2
    rw [aget_adel] at e
    split at e
    · cases e
    · exact h k y e

namespace Eng

/-- acts that can be read in the frame: of each its kind and its number -/
def RdA8 (F : Hp) (v : Value) (acts : List (Int × Int)) : Prop := ∃ a c, v = .slice a acts.length c ∧
  (acts = [] ∨ ∃ b o L T fz, a = some ⟨b, o, none⟩ ∧ F b = some (.cells (List.toArray L) T fz) ∧
    ∀ i k p, acts[i]? = some (k, p) → ∃ (f : Int) (x : Option Addr) (n m : Nat), o + i * 4 + 4 ≤ L.length ∧ (L.drop (o + i * 4)).take 4 = [.int .i64 k, .int .i64 p, .int .i64 f, .slice x n m])

attribute [local irreducible] Ops Segs Run Spec

set_option maxHeartbeats 1000000 in
theorem law08_ProcNumbers (v : Value) (acts : List (Int × Int)) (F : Hp) (g : Glob F) (hv : RdA8 F v acts) : Spec Tryz.prog 8 [v].toArray F [] fun u H => u = .bool true ∧ H = [] := by
  obtain ⟨oa, oc, rfl, hv⟩ := hv
  refine Spec.enterC (n := 68) Tryz.func8 rfl (by simp) (by kernel_rfl) fun ec hc => ?_
  cbv at hc
  injection hc with hc
  subst hc
  simp only [argFr, Nat.reduceAdd]
  refine go ?_
  refine Ops.call1 rfl .nil (fun F' e kn => law08_alive F' (g.ext e)) ?_
  rintro u G ⟨rfl, rfl⟩
  simp only [List.nil_append]
  refine go ?_
  refine Run.condF rfl ?_
  refine go ?_
  refine Run.condD rfl (fun h100 => ?_) (fun h100 => ?_)
  · refine go ?_
    exact Run.ret1 Tryz.func8 rfl rfl (H' := []) (fun h q => trivial) ⟨rfl, rfl⟩
  refine go ?_
  refine Ops.call1 rfl .nil (fun F' e kn => law08_open F' (g.ext e)) ?_
  rintro u G ⟨w, d, L, D, rs, rfl, rfl, well, _⟩
  simp only [List.cons_append, List.nil_append]
  have holds1 : (vol8 L).Holds 7 10 := ⟨well.inv, well.few, fun i c h => by simp [vol8, aget] at h⟩
  clear well
  refine go ?_
  refine Ops.call1 rfl .nil (fun F' e kn => proc_New w F') ?_
  rintro u G ⟨tb, rfl, rfl⟩
  simp only [List.cons_append, List.nil_append]
  refine go ?_
  refine Run.loopI (ι := Nat × TabS) (fun x => acts.length - x.1) (fun x => x.1 ≤ acts.length ∧ x.2.Ok (x.1 + 1) ∧ x.2.Bare ∧ x.2.list.length ≤ 32)
    (fun x => [(22, .int .i64 x.1), (21, .int .i64 acts.length), (20, .slice oa acts.length oc), (5, .int .i64 (x.2.next - 1)), (4, ptr tb), (3, ptr w)])
    (fun x => [TabP tb w x.2, VolP w d (vol8 L), DiskP d D]) (0, ⟨[], 1⟩) ⟨Nat.zero_le _, ⟨fun k x h => by simp [aget] at h, by decide, by decide⟩, fun k x h => by simp [aget] at h, by simp⟩ (.cons rfl (.cons rfl (.cons rfl (.cons rfl (.cons rfl (.cons rfl .nil)))))) (fun _ h => h) ?_
  rintro ⟨i, S⟩ ⟨hi, hS, hB, h32⟩ ih
  have ihn := ih
  clear ih
  dsimp only at hi hS hB h32 ihn ⊢
  have hnxI : 1 ≤ S.next ∧ S.next ≤ 200 := by have := hS.next; omega
  refine go ?_
  refine Run.condD rfl (fun hlt => ?_) (fun hge => ?_)
  rotate_left
  · refine Run.exit rfl ?_
    refine go ?_
    exact Run.ret1 Tryz.func8 rfl rfl (H' := []) (fun h q => trivial) ⟨rfl, rfl⟩
  have hlt' : i < acts.length := by omega
  have hel : acts[i]? = some acts[i] := List.getElem?_eq_getElem hlt'
  rcases hv with hv | ⟨b, o, Lc, T, fz, rfl, hF, hrd⟩
  · rw [hv] at hlt'; simp at hlt'
  generalize acts[i] = ac at hel
  obtain ⟨k, p⟩ := ac
  obtain ⟨f, x, n, m, hx1, hx2⟩ := hrd i k p hel
  refine go ?_
  refine Ops.ixS rfl rfl ⟨by omega, by omega⟩ ?_
  refine Ops.ldnF rfl hF (by rw [Int.toNat_natCast]; exact hx1) ?_
  rw [Int.toNat_natCast, hx2]
  refine go ?_
  refine Ops.alloc fun tmp => ?_
  refine Ops.stn0 (vs := [.int .i64 k, .int .i64 p, .int .i64 f, .slice x n m]) rfl rfl rfl rfl (by intro v hv; simp at hv; rcases hv with rfl | rfl | rfl | rfl <;> rfl) u0 (by simp) (by simp) ?_
  refine go ?_
  refine Ops.mask 3 rfl rfl (by decide) fun kk hkk => ?_
  refine go ?_
  refine Run.condD (p := (kk : Int) = 0) rfl (fun h0 => ?_) (fun h0 => ?_)
  · refine go ?_
    refine Ops.call1 rfl (.cons s1 (.cons s1 .nil)) (fun F' e kn => proc_Exit tb w d S (vol8 L) 7 10 (i + 1) hS holds1 (by decide) p F') ?_
    rintro u G ⟨rfl, rfl⟩
    have hex := exit_bare hB (vol8 L) p
    have hok := hS.exit (vol8 L) p
    have hll : (S.exit (vol8 L) p).2.1.list.length ≤ 32 := by
      unfold TabS.exit
      cases aget S.list p with
      | none => exact h32
      | some x => exact Nat.le_trans (adel_len _ _) h32
    rw [hex.1]
    simp only [List.cons_append, List.nil_append]
    refine go ?_
    refine Run.lp (Run.again (ihn (i + 1, (S.exit (vol8 L) p).2.1) (by dsimp only; omega) ⟨by dsimp only; omega, ⟨hok.keys, by have := hok.next; dsimp only; omega, by dsimp only; omega⟩, hex.2.1, hll⟩) (.cons rfl (.cons rfl (.cons rfl (.cons (by dsimp only; rw [hex.2.2]; rfl) (.cons (by rfl) (.cons (by rfl) .nil)))))) (fun h q => take_sub (.cons s0 (.cons s0 (.cons s1 .nil))) h q))
  refine go ?_
  refine Run.condD (p := (kk : Int) = 1) rfl (fun h1 => ?_) (fun h1 => ?_)
  · refine go ?_
    refine Ops.call1 rfl (.cons s1 .nil) (fun F' e kn => proc_Reset tb w w S F') ?_
    rintro u G ⟨rfl, rfl⟩
    simp only [List.cons_append, List.nil_append]
    refine go ?_
    refine Run.lp (Run.again (ihn (i + 1, { S with list := [] }) (by dsimp only; omega) ⟨by dsimp only; omega, ⟨fun k x h => by simp [aget] at h, by have := hS.next; dsimp only; omega, by dsimp only; omega⟩, fun k x h => by simp [aget] at h, by simp⟩) (.cons rfl (.cons rfl (.cons rfl (.cons rfl (.cons rfl (.cons rfl .nil)))))) (fun h q => take_sub (.cons s0 (.cons s1 (.cons s1 .nil))) h q))
  refine go ?_
  refine Ops.call1 rfl (.cons s1 .nil) (fun F' e kn => proc_List tb w S (i + 1) hS (by omega) F') ?_
  rintro u G ⟨a2, c2, rfl, rfl⟩
  simp only [List.cons_append, List.nil_append]
  refine go ?_
  have hsp : S.spawn (vol8 L) [117] [] = if 32 ≤ S.list.length then ((0, 7), S, vol8 L) else ((S.next, 0), ⟨aput S.list S.next ⟨S.next, [117], [], false⟩, S.next + 1⟩, vol8 L) := by
    unfold TabS.spawn
    rw [if_neg (by simp)]
    rfl
  have hok := hS.spawn (by omega) (vol8 L) [117] []
  refine Ops.call1 rfl (.cons s1 (.cons s2 .nil)) (fun F' e kn => proc_Spawn tb w d S (vol8 L) 7 10 (i + 1) hS (by omega) holds1 (by decide) [117] (.slice none 0 0) [] F' (g.ext e) ⟨_, _, rfl, .inl rfl⟩ (by decide)) ?_
  rintro u G ⟨rfl, rfl⟩
  rw [hsp] at hok
  rw [hsp]
  by_cases hfull : 32 ≤ S.list.length
  · rw [if_pos hfull] at hok
    rw [if_pos hfull]
    have d32 : decide ((S.list.length : Int) < 32) = false := decide_eq_false (by omega)
    simp only [List.cons_append, List.nil_append]
    refine go ?_
    simp only [d32]
    refine go ?_
    refine Run.condF rfl ?_
    refine go ?_
    refine Run.condF rfl ?_
    refine go ?_
    refine Run.lp (Run.again (ihn (i + 1, S) (by dsimp only; omega) ⟨by dsimp only; omega, ⟨hS.keys, by have := hS.next; dsimp only; omega, by dsimp only; omega⟩, hB, h32⟩) (.cons rfl (.cons rfl (.cons rfl (.cons rfl (.cons rfl (.cons rfl .nil)))))) (fun h q => take_sub (.cons s0 (.cons s0 (.cons s2 .nil))) h q))
  · rw [if_neg hfull] at hok
    rw [if_neg hfull]
    have d32 : decide ((S.list.length : Int) < 32) = true := decide_eq_true (by omega)
    have dn : (S.next - 1 + 1) = S.next := by omega
    simp only [List.cons_append, List.nil_append]
    refine go ?_
    simp only [d32]
    refine go ?_
    refine Run.condF (by simp [get, look, pickV, dn]) ?_
    refine go ?_
    refine Run.condT rfl ?_
    refine go ?_
    have hno : adel S.list S.next = S.list := adel_none (aget_none.1 (by
      cases e : aget S.list S.next with
      | none => rfl
      | some y => have := (hS.keys _ _ e).2.1; omega))
    refine Run.lp (Run.again (ihn (i + 1, ⟨aput S.list S.next ⟨S.next, [117], [], false⟩, S.next + 1⟩) (by dsimp only; omega) ⟨by dsimp only; omega, hok, ?_, ?_⟩) (.cons rfl (.cons rfl (.cons rfl (.cons ?_ (.cons (by rfl) (.cons (by rfl) .nil)))))) (fun h q => take_sub (.cons s0 (.cons s0 (.cons s2 .nil))) h q))
    · intro k2 y hk
      have e : aget (aput S.list S.next ⟨S.next, [117], [], false⟩) k2 = some y := hk
      rw [aget_aput] at e
      split at e
      · cases e; rfl
      · exact hB k2 y e
    · dsimp only
      unfold aput
      rw [hno, List.length_cons]
      omega
    · dsimp only
      rw [show S.next + 1 - 1 = S.next by omega]
      rfl
end Eng
end Go.Proofs.YtnfomoeicgdkkaaGreatDoor

/- What came in is read: bytes, rows, lists. -/
set_option linter.unusedSimpArgs false
set_option linter.unusedVariables false
namespace Go.Proofs.YtnfomoeicgdkkaaGreatDoor
open Go.ChangeShapes Go.WideShapes Go.ChangeAt Go.RowKit

namespace Eng
section
variable {H : Type} {enc : TypeId × Value → H} {P : Program} {w : World} {base : Nat} {sp : Nat → Bool} {held : Bool}

theorem pick_list {α : Type} {q : Nat → α → Prop} : ∀ n, (∀ i, i < n → ∃ x, q i x) → ∃ xs : List α, xs.length = n ∧ ∀ i x, xs[i]? = some x → q i x := by
  intro n
  induction n with
  | zero => intro _; exact ⟨[], rfl, fun i x h => by simp at h⟩
  | succ n ih =>
    intro h
    obtain ⟨xs, h1, h2⟩ := ih fun i hi => h i (by omega)
    obtain ⟨x, hx⟩ := h n (by omega)
    refine ⟨xs ++ [x], by simp [h1], fun i y hy => ?_⟩
    by_cases hi : i < xs.length
    · rw [List.getElem?_append_left hi] at hy; exact h2 i y hy
    · rw [List.getElem?_append_right (by omega)] at hy
      by_cases h0 : i - xs.length = 0
      · rw [h0] at hy; simp at hy; subst hy; rw [show i = n by omega]; exact hx
      · rw [List.getElem?_eq_none (by simp; omega)] at hy; cases hy

theorem cell_pt {a : Addr} {v : Value} (h : w.cell? a = some v) : ∃ b o L T fz, a = ⟨b, o, none⟩ ∧ w.heap[b]? = some (.cells (List.toArray L) T fz) ∧ L[o]? = some v := by
  unfold World.cell? at h
  split at h
  · rename_i c T fz hb
    split at h
    · cases h
    · rename_i hs
      obtain ⟨b, o, s⟩ := a
      cases s with
      | none => exact ⟨b, o, c.toList, T, fz, rfl, by simpa using hb, by simpa using h⟩
      | some s => simp at hs
  · cases h

theorem arg_list {α : Type} {t e : TypeId} {s : Nat} (Q : List Value → α → Prop) (ht : P.underlying t = some (.slice e)) (hs : P.cellsOf e = s) (hpos : 0 < s)
    (hel : ∀ n cs y, DataW.trod enc P w base sp held n e cs = some y → ∃ x, Q cs x) {fuel : Nat} {cs : List Value} {x : DataW H × List MemPlace} (h : DataW.trod enc P w base sp held fuel t cs = some x) :
    ∃ v xs, cs = [v] ∧ RdL (fun n => w.heap[n]?) s Q v xs := by
  rcases DataW.trod_slice ht h with ⟨rfl, _⟩ | ⟨a, len, cap, elems, rest, n, _, rfl, _, _, _, _, hlen, hE, _, _⟩
  · exact ⟨_, [], rfl, none, 0, rfl, .inl rfl⟩
  · rw [hs] at hE
    have hq : ∀ i, i < len → ∃ x, (∃ ci, w.cells? base (a.add (i * s)) s = some ci ∧ Q ci x) := by
      intro i hi
      have h1 := hE i hi
      have : elems[i]? = some elems[i] := List.getElem?_eq_getElem (by omega)
      rw [this, Option.bind_eq_some_iff] at h1
      obtain ⟨ci, h2, h3⟩ := h1
      obtain ⟨x, hx⟩ := hel _ _ _ h3
      exact ⟨x, ci, h2, hx⟩
    obtain ⟨xs, hx1, hx2⟩ := pick_list len hq
    refine ⟨_, xs, rfl, some a, cap, by rw [hx1], ?_⟩
    by_cases h0 : len = 0
    · left; exact List.length_eq_zero_iff.1 (by omega)
    right
    have cell : ∀ i, i < len → ∀ j, j < s → ∃ v, w.cell? ((a.add (i * s)).add j) = some v := by
      intro i hi j hj
      obtain ⟨x, ci, h1, _⟩ := hq i hi
      have h2 := World.cells?_some h1
      exact ⟨ci[j]'(by omega), by rw [h2.2.2 j hj]; exact List.getElem?_eq_getElem (by omega)⟩
    obtain ⟨v0, hv0⟩ := cell 0 (by omega) 0 hpos
    have ha0 : (a.add (0 * s)).add 0 = a := by simp [Addr.add]
    rw [ha0] at hv0
    obtain ⟨b, o, L, T, fz, rfl, hb, _⟩ := cell_pt hv0
    have hadd : ∀ i j, ((⟨b, o, none⟩ : Addr).add (i * s)).add j = ⟨b, o + i * s + j, none⟩ := by
      intro i j; rw [add_mk, add_mk]
    have hget : ∀ k, w.cell? ⟨b, k, none⟩ = L[k]? := by intro k; simp [World.cell?, hb]
    have hle : o + len * s ≤ L.length := by
      obtain ⟨v, hv⟩ := cell (len - 1) (by omega) (s - 1) (by omega)
      rw [hadd, hget] at hv
      have h1 : o + (len - 1) * s + (s - 1) < L.length := by
        rcases Nat.lt_or_ge (o + (len - 1) * s + (s - 1)) L.length with h | h
        · exact h
        · rw [List.getElem?_eq_none h] at hv; cases hv
      have h2 : len * s = (len - 1) * s + s := by
        obtain ⟨m, rfl⟩ : ∃ m, len = m + 1 := ⟨len - 1, by omega⟩
        rw [Nat.add_sub_cancel, Nat.add_mul, Nat.one_mul]
      omega
    refine ⟨b, o, L, T, fz, rfl, hb, by rw [hx1]; exact hle, fun i x hx => ?_⟩
    obtain ⟨ci, h1, h2⟩ := hx2 i x hx
    have hi : i < len := by
      rcases Nat.lt_or_ge i xs.length with h | h
      · omega
      · rw [List.getElem?_eq_none h] at hx; cases hx
    have h3 := World.cells?_some h1
    have h4 : (i + 1) * s ≤ len * s := Nat.mul_le_mul_right s hi
    have h5 : (i + 1) * s = i * s + s := by rw [Nat.add_mul, Nat.one_mul]
    have : (L.drop (o + i * s)).take s = ci := by
      apply List.ext_getElem?
      intro j
      rw [List.getElem?_take, List.getElem?_drop]
      split
      · rename_i hj
        have := h3.2.2 j hj
        rw [hadd, hget] at this; exact this
      · rename_i hj
        rw [List.getElem?_eq_none (by omega)]
    rw [this]; exact h2

/-- one byte -/
def Rd8 (cs : List Value) (b : UInt8) : Prop := cs = [bv b]

theorem trod_byte {e : TypeId} (he : P.underlying e = some (.int .u8)) (n : Nat) (cs : List Value) (y : DataW H × List MemPlace) (h : DataW.trod enc P w base sp held n e cs = some y) : ∃ b, Rd8 cs b := by
  obtain ⟨m, rfl, _, hw⟩ := DataW.trod_int he h
  simp only [Lit.wf, IntKind.min, IntKind.max, IntKind.signed, IntKind.bits, Bool.and_eq_true, decide_eq_true_eq] at hw
  have h2 : 0 ≤ m ∧ m < 256 := by
    obtain ⟨a, b⟩ := hw
    constructor
    · simpa using a
    · have : m ≤ 255 := by simpa using b
      omega
  refine ⟨UInt8.ofNat m.toNat, ?_⟩
  unfold Rd8 bv
  have : ((UInt8.ofNat m.toNat).toNat : Int) = m := by
    rw [UInt8.toNat_ofNat', Nat.mod_eq_of_lt (by omega)]; omega
  rw [this]

theorem rdl_bytes {F : Hp} {v : Value} {bs : Bytes} (h : RdL F 1 Rd8 v bs) : RdB F v bs := by
  obtain ⟨a, c, rfl, h | ⟨b, o, L, T, fz, ha, hF, hl, hq⟩⟩ := h
  · exact ⟨a, c, rfl, .inl h⟩
  · refine ⟨a, c, rfl, .inr ⟨b, o, L, T, fz, ha, hF, by omega, ?_⟩⟩
    apply List.ext_getElem?
    intro j
    rw [List.getElem?_take, List.getElem?_drop]
    unfold bvs
    rw [List.getElem?_map]
    by_cases hj : j < bs.length
    · have e := List.getElem?_eq_getElem hj
      have h1 := hq j _ e
      rw [Nat.mul_one] at h1
      rw [if_pos hj, e, one_at h1]; rfl
    · rw [if_neg hj, List.getElem?_eq_none (by omega)]; rfl

theorem arg_bytes {t e : TypeId} (ht : P.underlying t = some (.slice e)) (he : P.underlying e = some (.int .u8)) (hs : P.cellsOf e = 1) (n : Nat) (cs : List Value) (y : DataW H × List MemPlace)
    (h : DataW.trod enc P w base sp held n t cs = some y) : ∃ bs, Rd1 (fun n => w.heap[n]?) cs bs := by
  obtain ⟨v, xs, rfl, hr⟩ := arg_list Rd8 ht hs (by decide) (trod_byte he) h
  exact ⟨xs, v, rfl, rdl_bytes hr⟩

theorem arg_rows {t u e : TypeId} (ht : P.underlying t = some (.slice u)) (hs : P.cellsOf u = 1) (hu : P.underlying u = some (.slice e)) (he : P.underlying e = some (.int .u8)) (hs1 : P.cellsOf e = 1) (n : Nat) (cs : List Value) (y : DataW H × List MemPlace)
    (h : DataW.trod enc P w base sp held n t cs = some y) : ∃ bss v, cs = [v] ∧ RdBB (fun n => w.heap[n]?) v bss := by
  obtain ⟨v, xs, rfl, hr⟩ := arg_list (Rd1 fun n => w.heap[n]?) ht hs (by decide) (fun n cs y h => arg_bytes hu he hs1 n cs y h) h
  exact ⟨xs, v, rfl, hr.bb⟩

theorem trod_num {e : TypeId} {k : IntKind} (he : P.underlying e = some (.int k)) (n : Nat) (cs : List Value) (y : DataW H × List MemPlace) (h : DataW.trod enc P w base sp held n e cs = some y) : ∃ m, cs = [.int k m] ∧ (Lit.int k m).wf = true := by
  obtain ⟨m, rfl, _, hw⟩ := DataW.trod_int he h
  exact ⟨m, rfl, hw⟩

theorem wf_u64 {m : Int} (h : (Lit.int .u64 m).wf = true) : ∃ n : Nat, m = (n : Int) ∧ n < 2 ^ 64 := by
  simp only [Lit.wf, IntKind.min, IntKind.max, IntKind.signed, IntKind.bits, Bool.and_eq_true, decide_eq_true_eq] at h
  obtain ⟨a, b⟩ := h
  have h1 : 0 ≤ m := by simpa using a
  have h2 : m ≤ 2 ^ 64 - 1 := by simpa using b
  exact ⟨m.toNat, by omega, by omega⟩
end

/-- a contract that reads what is there, and owns nothing of it -/
theorem Spec.calls {P : Program} {f : FuncId} {args : Array Value} {W : World} {R : Value → Prop} (s : Eng.Spec P f args (fun n => W.heap[n]?) [] fun v H => R v ∧ H = []) :
    Calls P f args W fun e W' => ∃ v, e = .returned v ∧ R v ∧ Below W.heap.size W W' := by
  unfold Eng.Spec at s
  refine (s W Eng.noHp trivial ⟨fun n => .inl rfl, fun n o h => (by cases h), fun n o h => h⟩).mono ?_
  rintro e w' ⟨v, H', h', he, ⟨hr, _⟩, _, k, kp⟩
  refine ⟨v, he, hr, kp.os, kp.tape, kp.output, kp.size, fun n hn => ?_⟩
  have : W.heap[n]? = some W.heap[n] := by simp [hn]
  rw [this]
  exact k.frm n _ this
end Eng

section
variable {H : Type} {enc : TypeId × Value → H} {P : Program}
theorem post_below {f : Func} {s : ChangeSpec} {apart fresh handsOn again : Bool} {W W' : World} {args : Array Value} {v : Value} {ds gs : List (DataW H)} {before pa pv : List MemPlace}
    (hW : DataW.Whole enc P f.params.toList s.vars apart W args.toList ds gs before)
    (hres : ∀ (b : Nat) (sp : Nat → Bool) (hd : Bool), DataW.TrodAll enc P W' b sp hd f.resultTypes.toList (v.resultList f.resultTypes.size) (s.fn H (ds ++ gs)).results [])
    (hargs : ∀ sp : Nat → Bool, (∀ p ∈ before, sp p.block = true) → DataW.TrodAll enc P W' 0 sp true f.params.toList args.toList (s.fn H (ds ++ gs)).args pa)
    (hvars : ∀ sp : Nat → Bool, (∀ p ∈ before, sp p.block = true) → DataW.TrodVars enc P W' sp s.vars (s.fn H (ds ++ gs)).vars pv)
    (hps : before = pa ++ pv) (hb : Below W.heap.size W W')
    (hok : ∀ (j : Nat) (t : TypeId) (r : Value), f.resultTypes[j]? = some t → (v.resultList f.resultTypes.size)[j]? = some r → Value.okWide P W' .any 0 t r) :
    s.post enc P f apart fresh handsOn again W args v W' := by
  have hlt : ∀ p ∈ before, p.block < W.heap.size := fun p hp => hW.lt p hp
  have hold : ∀ p ∈ before, (fun b => decide (b < W.heap.size)) p.block = true := fun p hp => by simpa using hlt p hp
  refine ⟨ds, gs, before, [], pa, pv, hW, hres _ _ _, hargs _ hold, hvars _ hold, World.keptBut_mono (fun p hp => ⟨hp, ?_⟩) (hb.frame (· ∈ before)), fun _ => ?_⟩
  · rw [hps, List.mem_append] at hp
    exact Or.inr hp
  · obtain ⟨_, _, _, _, _, hz, hn⟩ := hW
    refine ⟨hok, _, _, ([] ++ pa) ++ pv, ⟨[] ++ pa, pv, trodAll_append (hargs _ (fun _ _ => rfl)) (hres _ _ _), hvars _ (fun _ _ => rfl), rfl, ?_, ?_⟩, ?_⟩
    · intro b off hp
      have hin : MemPlace.cell b off ∈ before := by rw [hps]; simpa using hp
      rw [hb.frozen (hlt _ hin)]
      exact hz b off hin
    · intro ha
      have := hn ha
      rw [hps] at this
      simpa using this
    · intro p hp _
      rw [hps]
      simpa using hp
end

section
variable {H : Type} {enc : TypeId × Value → H} {P : Program}

theorem trodAll_stays (hl : laidOutB P = true) {W W' : World} {sp' : Nat → Bool} (hb : Below W.heap.size W W') : ∀ {ts : List TypeId} {vs : List Value} {ds : List (DataW H)} {ps : List MemPlace}, (∀ t ∈ ts, P.readableRec t = true ∧ t < P.types.size) →
    DataW.TrodAll enc P W 0 (fun _ => true) true ts vs ds ps → (∀ p ∈ ps, p.block < W.heap.size) → (∀ p ∈ ps, sp' p.block = true) → DataW.TrodAll enc P W' 0 sp' true ts vs ds ps
  | [], _, _, _, _, h, _, _ => by
    obtain ⟨rfl, rfl, rfl⟩ := trodAll_nil h
    exact trodAll_mk0
  | t :: ts, _, _, _, ht, h, h1, h2 => by
    obtain ⟨v, vs, d, ds, p, q, rfl, rfl, rfl, ha, hr⟩ := trodAll_cons h
    refine trodAll_cons_mk (WideElems.Trod_stays hl (ht t (.head _)).1 (ht t (.head _)).2 ha (fun x hx => hb.same (h1 x (List.mem_append_left _ hx))) (fun x hx => h2 x (List.mem_append_left _ hx))) ?_
    exact trodAll_stays hl hb (fun u hu => ht u (.tail _ hu)) hr (fun x hx => h1 x (List.mem_append_right _ hx)) (fun x hx => h2 x (List.mem_append_right _ hx))

theorem val_int {W : World} {b : Nat} {t : TypeId} {k : IntKind} {v : Value} (ht : P.underlying t = some (.int k)) (hval : Value.okWide P W .any b t v) : ∃ n, v = .int k n ∧ (Lit.int k n).wf = true := by
  simp only [Value.okWide, ht, Cell.okWide, Cell.ok] at hval
  split at hval <;> simp_all [IntKind.has, Lit.wf]

theorem val_u64 {W : World} {b : Nat} {t : TypeId} {v : Value} (ht : P.underlying t = some (.int .u64)) (hval : Value.okWide P W .any b t v) : ∃ n : Nat, v = .int .u64 (n : Int) ∧ n < 2 ^ 64 := by
  obtain ⟨m, rfl, hw⟩ := val_int ht hval
  obtain ⟨n, rfl, hn⟩ := Eng.wf_u64 hw
  exact ⟨n, rfl, hn⟩

theorem val_slice {W : World} {b : Nat} {t e : TypeId} {v : Value} (ht : P.underlying t = some (.slice e)) (hval : Value.okWide P W .any b t v) : v.cells.toList = [v] := by
  simp only [Value.okWide, ht, Cell.okWide, Cell.ok] at hval
  cases v <;> simp_all [Value.cells]

end

section
variable {H : Type} {enc : TypeId × Value → H}
/-- the lift, with the shape of what the program's variables hold -/
theorem returns_shaped {a : Assume} {C : Checked} {os : Os} {f : FuncId} {fn : Func} {s : ChangeSpec} {conds : List PathCond} {apart fresh handsOn again : Bool} {X : World → Array Value → Prop}
    (hX : ∀ (w w' : World) (args : Array Value), w.heap = w'.heap → X w args → X w' args)
    (own : ownKnob C.prog.godebug = Option.none) (started : os.Started) (noInit : C.prog.inits.idxOf? f = Option.none) (hfn : C.prog.funcs[f]? = some fn)
    (witness : ∃ (w : World) (tape : Tape) (i : Input), w.os = os ∧ (w.forCall tape i).Shaped C.prog ∧ i.vars = [] ∧ Input.okWide C.prog (w.forCall tape i) .any w.heap.size f i ∧
      ((s.pre enc C.prog fn conds apart (w.forCall tape i).memory i.args ∧ X (w.forCall tape i).memory i.args) ∧ sizedMet enc C.prog fn (OpenSpec.ofChange s) apart (w.forCall tape i).memory i.args) ∧ a.holds C.prog (lone (Frame.enter C.prog f i.args .normal) [] (w.forCall tape i)))
    (contract : ∀ (W : World) (base : Nat) (args : Array Value) (ds gs : List (DataW H)) (before : List MemPlace),
      (∀ (j : Nat) t v, fn.params[j]? = some t → args[j]? = some v → Value.okWide C.prog W .any base t v) →
      DataW.Whole enc C.prog fn.params.toList s.vars apart W args.toList ds gs before → X W args → W.ShapedOpen C.prog →
      Calls C.prog f args W fun e W' => ∃ v, e = .returned v ∧ s.post enc C.prog fn apart fresh handsOn again W args v W') :
    ReturnsInHanded a C os f .any (fun w args => (s.pre enc C.prog fn conds apart w args ∧ X w args) ∧ sizedMet enc C.prog fn (OpenSpec.ofChange s) apart w args) (s.post enc C.prog fn apart fresh handsOn again) := by
  refine returnsInHanded_of_calls own started noInit witness ?_
  intro w tape i _ hsh _ hok hpre _
  obtain ⟨_, _, _, fn', hfn', _, _, _, _, hval⟩ := hok
  have e : fn' = fn := Option.some.inj (hfn'.symm.trans hfn)
  subst e
  obtain ⟨⟨⟨ds, gs, before, hw, _⟩, hx⟩, _⟩ := hpre
  have hw' := DataW.Whole.of_heap (w' := w.forCall tape i) (by rfl) hw
  refine (contract (w.forCall tape i) w.heap.size i.args ds gs before hval hw' (hX _ _ _ (by rfl) hx) hsh).mono fun e W' ⟨v, he, hp⟩ => ?_
  subst he
  exact ChangeSpec.post_blind hp
end

set_option maxRecDepth 100000 in
theorem glob_of_shape {W : World} (h : W.ShapedOpen Tryz.prog) : Eng.Glob (fun n => W.heap[n]?) := by
  have h0 : ((begin Tryz.prog (fun _ _ => 0) default).world.heap[0]?).bind Obj.row? = some (#[.int .i64 0], 3) := by kernel_rfl
  obtain ⟨cs, hh, hs, hr⟩ := h.1 0 _ _ (by have : 0 < Tryz.prog.globals.size := of_decide_eq_true (by kernel_rfl); exact this) h0
  obtain ⟨ts, hts, _, hall⟩ := hr (by kernel_rfl)
  have hc : Tryz.prog.cellTypes Tryz.prog.depth 3 = some [3] := by kernel_rfl
  rw [hc] at hts
  cases hts
  have h1 : 0 < cs.size := by simp at hs; omega
  obtain ⟨u, hu, hok⟩ := hall 0 cs[0] (by simp [h1])
  have e : u = 3 := by simpa using hu.symm
  subst e
  unfold Cell.ok at hok
  rw [Tryz.underlying3] at hok
  cases hv : cs[0] <;> rw [hv] at hok <;> simp at hok
  rename_i k m
  obtain ⟨rfl, _⟩ := hok
  refine ⟨cs.toList, _, _, m, hh, ?_⟩
  rw [← hv]; simp [h1]

namespace Eng
section
variable {H : Type} {enc : TypeId × Value → H} {w : World} {base : Nat} {sp : Nat → Bool} {held : Bool}

theorem four_cells {cs : List Value} {a b c d : Value} (h : cs.length = 4) (h0 : (cs.drop 0).take 1 = [a]) (h1 : (cs.drop 1).take 1 = [b]) (h2 : (cs.drop 2).take 1 = [c]) (h3 : (cs.drop 3).take 1 = [d]) : cs = [a, b, c, d] := by
  match cs, h with
  | [x, y, z, u], _ => simp at h0 h1 h2 h3; simp [h0, h1, h2, h3]

/-- one string -/
def RdS1 (cs : List Value) (s : Bytes) : Prop := cs = [sv s]
theorem arg_str {P : Program} {e : TypeId} (he : P.underlying e = some .string) (n : Nat) (cs : List Value) (y : DataW H × List MemPlace) (h : DataW.trod enc P w base sp held n e cs = some y) : ∃ s, RdS1 cs s := by
  obtain ⟨s, rfl, _⟩ := DataW.trod_string he h
  exact ⟨s.data.toList, rfl⟩

/-- an act: kind, number, file, paths -/
structure A8 where
  kind : Int
  pid : Int
  file : Int
  paths : List Bytes
def RdA (F : Hp) (cs : List Value) (a : A8) : Prop := ∃ v, cs = [.int .i64 a.kind, .int .i64 a.pid, .int .i64 a.file, v] ∧ RdL F 1 RdS1 v a.paths

theorem arg_act8 (n : Nat) (cs : List Value) (y : DataW H × List MemPlace) (h : DataW.trod enc Tryz.prog w base sp held n 81 cs = some y) : ∃ o, RdA (fun n => w.heap[n]?) cs o := by
  obtain ⟨y0, y1, y2, y3, m, _, hl, h0, h1, h2, h3⟩ := Go.Joins.trod_struct4 Tryz.underlying81 h
  have e1 : Tryz.prog.cellsOf 3 = 1 := by kernel_rfl
  have e2 : Tryz.prog.cellsOf 74 = 1 := by kernel_rfl
  have e4 : Tryz.prog.cellsOf 81 = 4 := by kernel_rfl
  dsimp only at h0 h1 h2 h3
  rw [e1] at h0 h1 h2
  rw [e2] at h3
  obtain ⟨a, ha, _⟩ := trod_num Tryz.underlying3 _ _ _ h0
  obtain ⟨b, hb, _⟩ := trod_num Tryz.underlying3 _ _ _ h1
  obtain ⟨c, hc, _⟩ := trod_num Tryz.underlying3 _ _ _ h2
  obtain ⟨v, ps, hv, hr⟩ := arg_list (s := 1) RdS1 Tryz.underlying74 (by kernel_rfl) (by decide) (arg_str Tryz.underlying9) h3
  exact ⟨⟨a, b, c, ps⟩, v, four_cells (by rw [hl, e4]) ha hb hc hv, hr⟩

theorem RdL.a8 {F : Hp} {v : Value} {xs : List A8} (h : RdL F 4 (RdA F) v xs) : RdA8 F v (xs.map fun a => (a.kind, a.pid)) := by
  obtain ⟨a, c, rfl, h | ⟨b, o, L, T, fz, ha, hF, hl, hq⟩⟩ := h
  · exact ⟨a, c, by rw [List.length_map], .inl (by rw [h]; rfl)⟩
  · refine ⟨a, c, by rw [List.length_map], .inr ⟨b, o, L, T, fz, ha, hF, fun i k p hi => ?_⟩⟩
    rw [List.getElem?_map] at hi
    cases hx : xs[i]? with
    | none => rw [hx] at hi; cases hi
    | some x =>
      rw [hx] at hi
      cases hi
      obtain ⟨v, e, ⟨a2, c2, rfl, _⟩⟩ := hq i x hx
      have hlt : i < xs.length := by
        rcases Nat.lt_or_ge i xs.length with h | h
        · exact h
        · rw [List.getElem?_eq_none h] at hx; cases hx
      exact ⟨x.file, a2, x.paths.length, c2, by omega, e⟩
end
end Eng
end Go.Proofs.YtnfomoeicgdkkaaGreatDoor
