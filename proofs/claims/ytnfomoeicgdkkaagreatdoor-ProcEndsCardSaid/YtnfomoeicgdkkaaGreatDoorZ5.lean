/- The log: the next record. -/
import Derived.Test.YtnfomoeicgdkkaaGreatDoorZ4
set_option linter.unusedSimpArgs false
set_option linter.unusedVariables false
namespace Go.Proofs.YtnfomoeicgdkkaaGreatDoor

/-- the bytes of a record's other sectors -/
def gather (D : DiskS) (base : Nat) : Nat → Nat → Bytes → Option Bytes
  | 0, _, b => some b
  | n + 1, i, b => if (D.at_ (base + i))[0]? = some 3 then gather D base n (i + 1) (b ++ (D.at_ (base + i)).drop 1) else none

def headOf (s : Bytes) : Rd := ⟨(s.drop 1).take 16, false⟩

def LogS.next (L : LogS) (D : DiskS) : Option (Bytes × Nat) :=
  if D.hf ≤ L.pos then none else
    let s := D.at_ (L.base D L.pos)
    let x1 := (headOf s).num 4096
    let x2 := x1.2.num 2147483648
    let x3 := x2.2.num 2147483648
    let x4 := x3.2.num 4294967295
    if s[0]? = some 2 then if x4.2.bad = true then none else if x2.1 = L.list.length then if x3.1 = L.epoch then
      if D.hf < L.pos + sectorsOf x1.1.toNat then none else
        match gather D (L.base D L.pos) (sectorsOf x1.1.toNat - 1) 1 (s.drop 17) with
        | none => none
        | some b => if (crcOf ((le4 x2.1.toNat ++ le4 x3.1.toNat) ++ b.take x1.1.toNat) : Int) = x4.1 then some (b.take x1.1.toNat, sectorsOf x1.1.toNat) else none
    else none else none else none

namespace Eng
theorem Run.lendC {P : Program} {f : FuncId} {n : Nat} {F : Hp} {K : List EI} {l : Fr} {H : List HA} {R : Value → List HA → Prop} (S S' : List HA) {M : List HA} (t : Take H S M) (es : ∀ h, seps S h → seps S' h)
    (r : ∀ F', Ext F F' → Known S F' → Run P f n F' K l M (fun v H' => R v H' ∨ R v (H' ++ S'))) : Run P f n F K l H R := by
  intro K' w0 w h a i q fw fa kp
  obtain ⟨x, y, sp, qx, qy⟩ := seps_append.1 (t.sound q)
  have hb : ∀ n, x n = none ∨ F n = none := fun n => (fw.dis n).imp sp.none_left id
  have ext : Ext F (Eng.join F x) := fun n o e => by simp [Eng.join, e]
  have known : Known S (Eng.join F x) := fun n o m => by
    have := seps_mem_pt m qx
    rcases hb n with e | e
    · rw [e] at this; cases this
    · simp [Eng.join, e, this]
  refine (r (Eng.join F x) ext known K' w0 w y a i qy (fw.split sp.symm) fa kp).mono ?_
  rintro e w' ⟨v, H', h', he, r, q', k', kp'⟩
  have ⟨k2, s2⟩ := k'.unsplit hb
  rcases r with r | r
  · exact ⟨v, _, _, he, r, seps_up q' s2.symm, k2, kp'⟩
  · exact ⟨v, _, _, he, r, seps_append.2 ⟨h', x, s2, q', es _ qx⟩, k2, kp'⟩

def RowP (v : Value) (b : Bytes) : HA := grp (RowI v b)

def NextR (d : Nat) (D : DiskS) (o : Option (Bytes × Nat)) (v : Value) (H : List HA) : Prop := match o with
  | none => v = .tuple [.slice none 0 0, .int .i64 0, .int .i64 0].toArray ∧ H = [DiskP d D]
  | some (b, k) => ∃ xa xc, v = .tuple [.slice xa b.length xc, .int .i64 k, .int .i64 0].toArray ∧ H = [DiskP d D, RowP (.slice xa b.length xc) b]

theorem seps_right {A B : List HA} : ∀ h, seps (A ++ B) h → seps B h := by
  intro h q
  obtain ⟨x, y, sp, _, q2⟩ := seps_append.1 q
  exact seps_up q2 sp

theorem RdB.take {F : Hp} {b o n c c' k : Nat} {a' : Option Addr} {bs : Bytes} (h : RdB F (.slice (some ⟨b, o, none⟩) n c) bs) (hk : k ≤ bs.length) (ha : a' = some ⟨b, o, none⟩ ∨ k = 0) : RdB F (.slice a' k c') (bs.take k) := by
  obtain ⟨a, c0, he, h⟩ := h
  cases he
  have hlk : (bs.take k).length = k := by rw [List.length_take]; omega
  refine ⟨a', c', by rw [hlk], ?_⟩
  by_cases h0 : k = 0
  · subst h0; exact .inl (by simp)
  rcases h with h | ⟨b', o', L, T, fz, he, hF, hl, ht⟩
  · subst h; exact .inl (by simp)
  · cases he
    rcases ha with ha | ha
    · refine .inr ⟨b, o, L, T, fz, ha, hF, by rw [hlk]; omega, ?_⟩
      have := congrArg (List.take k) ht
      rw [List.take_take, Nat.min_eq_left hk] at this
      rw [hlk, this]; simp [bvs, List.map_take]
    · exact absurd ha h0

attribute [local irreducible] Ops Segs Run Spec

set_option maxHeartbeats 800000 in
theorem log_next (l d : Nat) (L : LogS) (a : Option Addr) (c : Nat) (D : DiskS) (ok : L.Ok D) (hd : D.down = false) (F : Hp)
    (hF : F l = some (.cells (lcells d L a L.list.length c).toArray 233 (0, 0))) :
    Spec Tryz.prog 137 [.pointer (some ⟨l, 0, none⟩)].toArray F [DiskP d D] (NextR d D (L.next D)) := by
  have hok := ok.disk
  have hsz := hok.size
  have h6 := ok.size
  have hhf := hf_le hok
  have hhfd : D.hf * 2 + 2 ≤ D.kept.length := by unfold DiskS.hf; omega
  have hnone : ∀ {K : List EI} {l0 : Fr} {F0 : Hp} {H : List HA}, L.next D = none → look l0 2 = some (.slice none 0 0) → look l0 3 = some (.int .i64 0) → look l0 4 = some (.int .i64 0) → (∀ h, seps H h → seps [DiskP d D] h) →
      Run Tryz.prog 137 134 F0 (.code .ret :: K) l0 H (NextR d D (L.next D)) := by
    intro K l0 F0 H hn h2 h3 h4 hH
    exact Run.ret Tryz.func137 (rs := [.tmp 2, .tmp 3, .tmp 4]) rfl (.tmp h2 (.tmp h3 (.tmp h4 .nil))) hH (by rw [hn]; exact ⟨rfl, rfl⟩)
  refine Spec.enter (n := 134) Tryz.func137 ok_log_Log_next rfl (by simp) ?_
  unfold ec_log_Log_next
  simp only [argFr, Nat.reduceAdd]
  refine go ?_
  refine Segs.lend [] .nil fun F1 x1 k1 => ?_
  refine go ?_
  refine Ops.ldF rfl (x1 _ _ hF) rfl ?_
  refine Ops.ldF rfl (x1 _ _ hF) rfl ?_
  refine Ops.call1 rfl (.cons s0 .nil) (fun F' _ _ => log_half d D (by omega) F') ?_
  rintro v G ⟨rfl, rfl⟩
  simp only [List.cons_append, List.nil_append]
  refine Ops.nil (Segs.oneS rfl ?_)
  refine go1 ?_
  refine Ops.nil (Segs.nil ?_)
  refine Run.condD rfl (fun h0 => ?_) (fun h0 => ?_)
  · have hn : L.next D = none := by unfold LogS.next; rw [if_pos (by omega)]
    refine go ?_
    exact hnone hn rfl rfl rfl (fun h q => q)
  have hpos : L.pos < D.hf := by omega
  have hm : L.half * D.hf ≤ D.hf := by have := Nat.mul_le_mul_right D.hf ok.half; omega
  have hb : ∀ k, k < D.hf → L.base D k < D.kept.length := by intro k hk; unfold LogS.base; omega
  have hlen := at_len hok hd (hb _ hpos)
  have hnx : L.next D = (let s := D.at_ (L.base D L.pos)
    let x1 := (headOf s).num 4096
    let x2 := x1.2.num 2147483648
    let x3 := x2.2.num 2147483648
    let x4 := x3.2.num 4294967295
    if s[0]? = some 2 then if x4.2.bad = true then none else if x2.1 = L.list.length then if x3.1 = L.epoch then
      if D.hf < L.pos + sectorsOf x1.1.toNat then none else
        match gather D (L.base D L.pos) (sectorsOf x1.1.toNat - 1) 1 (s.drop 17) with
        | none => none
        | some b => if (crcOf ((le4 x2.1.toNat ++ le4 x3.1.toNat) ++ b.take x1.1.toNat) : Int) = x4.1 then some (b.take x1.1.toNat, sectorsOf x1.1.toNat) else none
    else none else none else none) := by unfold LogS.next; rw [if_neg (by omega)]
  refine go ?_
  refine Ops.ldF rfl hF rfl ?_
  refine Ops.call1 rfl (.cons s0 .nil) (fun F' e _ => log_read l d L a L.list.length c D hd (by omega) L.pos ok.half hpos hok F' (e _ _ hF)) ?_
  rintro v G ⟨rfl, rfl⟩
  simp only [List.cons_append, List.nil_append]
  generalize hse : D.at_ (L.base D L.pos) = s at *
  refine go ?_
  refine Ops.alloc fun b5 => ?_
  refine Ops.stS hlen rfl rfl u0 ?_
  refine go ?_
  refine Run.condF rfl ?_
  refine Run.skip ?_
  refine Run.lendD [_] (.cons s0 .nil) fun F2 x2 k2 => ?_
  have hFs := k2 _ _ m0
  have hF2 := x2 _ _ hF
  refine go ?_
  refine Ops.slA (l1 := 1) (h1 := 17) rfl rfl rfl (by omega) (by omega) fun a1 ha1 => ?_
  refine Ops.call1 rfl .nil (fun F' e kn => rec_Read _ (headOf s).b F' ((rdB_at hFs 16 (o := 1) (by omega) (a := a1) (c := 63) (ha1.imp id (by omega))).ext e) (by simp [headOf]; omega)) ?_
  rintro v G ⟨r, rfl, rfl⟩
  simp only [List.cons_append, List.nil_append]
  have hh0 : (headOf s).b.length ≤ 16 := by simp [headOf]; omega
  refine go ?_
  have hl1 := Rd.num_len (most := 4096) (headOf s)
  have hg1 := Rd.num_range (most := 4096) (by omega) (headOf s)
  refine Ops.call1 rfl (.cons s0 .nil) (fun F' e _ => rec_Reader_Num r (headOf s) 4096 (by omega) F') ?_
  rintro v G ⟨rfl, rfl⟩
  simp only [List.cons_append, List.nil_append]
  dsimp only at hnx
  generalize (headOf s).num 4096 = y1 at *
  have hl2 := Rd.num_len (most := 2147483648) y1.2
  have hg2 := Rd.num_range (most := 2147483648) (by omega) y1.2
  refine go ?_
  refine Ops.call1 rfl (.cons s0 .nil) (fun F' e _ => rec_Reader_Num r y1.2 2147483648 (by omega) F') ?_
  rintro v G ⟨rfl, rfl⟩
  simp only [List.cons_append, List.nil_append]
  generalize y1.2.num 2147483648 = y2 at *
  have hl3 := Rd.num_len (most := 2147483648) y2.2
  have hg3 := Rd.num_range (most := 2147483648) (by omega) y2.2
  refine go ?_
  refine Ops.call1 rfl (.cons s0 .nil) (fun F' e _ => rec_Reader_Num r y2.2 2147483648 (by omega) F') ?_
  rintro v G ⟨rfl, rfl⟩
  simp only [List.cons_append, List.nil_append]
  generalize y2.2.num 2147483648 = y3 at *
  have hg4 := Rd.num_range (most := 4294967295) (by omega) y3.2
  refine go ?_
  refine Ops.call1 rfl (.cons s0 .nil) (fun F' e _ => rec_Reader_Num r y3.2 4294967295 (by omega) F') ?_
  rintro v G ⟨rfl, rfl⟩
  simp only [List.cons_append, List.nil_append]
  generalize y3.2.num 4294967295 = y4 at *
  obtain ⟨n1, R1⟩ := y1
  obtain ⟨n2, R2⟩ := y2
  obtain ⟨n3, R3⟩ := y3
  obtain ⟨n4, R4⟩ := y4
  dsimp only at *
  obtain ⟨n1, rfl⟩ := Int.eq_ofNat_of_zero_le hg1.1
  obtain ⟨n2, rfl⟩ := Int.eq_ofNat_of_zero_le hg2.1
  obtain ⟨n3, rfl⟩ := Int.eq_ofNat_of_zero_le hg3.1
  obtain ⟨n4, rfl⟩ := Int.eq_ofNat_of_zero_le hg4.1
  simp only [Int.toNat_natCast] at hnx
  clear hl1 hl2 hl3 R1 R2 R3
  refine go ?_
  refine Ops.call1 rfl .nil (fun F' _ _ => log_sectors n1 (by omega) F') ?_
  rintro v G ⟨rfl, rfl⟩
  simp only [List.cons_append, List.nil_append]
  have hsn : sectorsOf n1 * 63 ≤ n1 + 78 ∧ n1 + 16 ≤ sectorsOf n1 * 63 := by unfold sectorsOf; omega
  generalize sectorsOf n1 = k at *
  refine go1 ?_
  refine Ops.nil (Segs.nil (Run.sub (l' := [(12, .int .i64 k), (11, .int .i64 n4), (10, .int .i64 n3), (9, .int .i64 n2), (8, .int .i64 n1), (7, .pointer (some ⟨r, 0, none⟩)), (5, .pointer (some ⟨b5, 0, none⟩)), (4, .int .i64 0), (3, .int .i64 0), (2, .slice none 0 0), (0, .pointer (some ⟨l, 0, none⟩))])
    (.cons rfl (.cons rfl (.cons rfl (.cons rfl (.cons rfl (.cons rfl (.cons rfl (.cons rfl (.cons rfl (.cons rfl (.cons rfl .nil))))))))))) ?_))
  obtain ⟨u, sr, hus⟩ := first_byte hlen
  subst hus
  refine go ?_
  refine Ops.ixA rfl rfl ⟨by omega, by omega⟩ ?_
  refine Ops.ldF (v := bv u) rfl hFs rfl ?_
  unfold bv
  have hu := byte_eq u 2 (by omega)
  refine Ops.nil (Segs.oneS rfl ?_)
  refine Ops.q rfl rfl ?_
  by_cases c1 : u = 2
  case neg =>
    have hc : decide ((u.toNat : Int) = 2) = false := by rw [decide_eq_false_iff_not]; intro e; exact c1 (UInt8.toNat_inj.1 (by rw [show (2 : UInt8).toNat = 2 from rfl]; omega))
    simp only [hc, Bool.not_false]
    have hn : L.next D = none := by rw [hnx]; rw [if_neg (by simp only [List.getElem?_cons_zero, Option.some.injEq]; exact c1)]
    refine go ?_
    refine Segs.lend [] .nil fun F3 x3 k3 => ?_
    refine go ?_
    refine Run.condT rfl ?_
    refine go ?_
    exact hnone hn rfl rfl rfl (fun h q => take_sub (.cons s1 .nil) h q)
  have hc1 : decide ((u.toNat : Int) = 2) = true := by rw [decide_eq_true_iff, c1]; rfl
  simp only [hc1, Bool.not_true]
  rw [if_pos (by rw [c1]; rfl)] at hnx
  refine go ?_
  refine Ops.call1 rfl (.cons s0 .nil) (fun F' e _ => rec_Reader_Good r R4 F') ?_
  rintro v G ⟨rfl, rfl⟩
  simp only [List.cons_append, List.nil_append]
  cases c2 : R4.bad
  case true =>
    rw [c2, if_pos rfl] at hnx
    simp only [Bool.not_true]
    have hn : L.next D = none := hnx
    refine go ?_
    refine Segs.lend [] .nil fun F3 x3 k3 => ?_
    refine go ?_
    refine Run.condT rfl ?_
    refine go ?_
    exact hnone hn rfl rfl rfl (fun h q => take_sub (.cons s1 .nil) h q)
  rw [c2, if_neg (by decide)] at hnx
  simp only [Bool.not_false]
  refine go ?_
  refine Ops.ldF rfl hF2 rfl ?_
  refine Ops.nil (Segs.oneS rfl ?_)
  refine go1 ?_
  by_cases c3 : n2 = L.list.length
  case neg =>
    have hc : decide ((n2 : Int) = (L.list.length : Int)) = false := by rw [decide_eq_false_iff_not]; omega
    rw [if_neg (by omega)] at hnx
    simp only [hc, Bool.not_false]
    have hn : L.next D = none := hnx
    refine go ?_
    refine Segs.lend [] .nil fun F3 x3 k3 => ?_
    refine go ?_
    refine Run.condT rfl ?_
    refine go ?_
    exact hnone hn rfl rfl rfl (fun h q => take_sub (.cons s1 .nil) h q)
  have hc3 : decide ((n2 : Int) = (L.list.length : Int)) = true := by rw [decide_eq_true_iff]; omega
  rw [if_pos (by omega)] at hnx
  simp only [hc3, Bool.not_true]
  refine go ?_
  refine Ops.ldF rfl hF2 rfl ?_
  refine Ops.nil (Segs.lend [] .nil fun F3 x3 k3 => ?_)
  refine go1 ?_
  by_cases c4 : n3 = L.epoch
  case neg =>
    have hc : decide ((n3 : Int) = (L.epoch : Int)) = false := by rw [decide_eq_false_iff_not]; omega
    rw [if_neg (by omega)] at hnx
    simp only [hc, Bool.not_false]
    have hn : L.next D = none := hnx
    refine go ?_
    refine Run.condT rfl ?_
    refine go ?_
    exact hnone hn rfl rfl rfl (fun h q => take_sub (.cons s1 .nil) h q)
  have hc4 : decide ((n3 : Int) = (L.epoch : Int)) = true := by rw [decide_eq_true_iff]; omega
  rw [if_pos (by omega)] at hnx
  simp only [hc4, Bool.not_true]
  refine go ?_
  refine Ops.ldF rfl (x3 _ _ hF2) rfl ?_
  refine go ?_
  refine Ops.ldF rfl (x3 _ _ hF2) rfl ?_
  refine go ?_
  refine Ops.call1 rfl (.cons s1 .nil) (fun F' _ _ => log_half d D (by omega) F') ?_
  rintro v G ⟨rfl, rfl⟩
  simp only [List.cons_append, List.nil_append]
  refine Ops.nil (Segs.oneS rfl ?_)
  refine go1 ?_
  refine Ops.nil (Segs.nil ?_)
  refine Run.condD rfl (fun c5 => ?_) (fun c5 => ?_)
  · rw [if_pos (by omega)] at hnx
    refine go ?_
    exact hnone hnx rfl rfl rfl (fun h q => take_sub (.cons s0 .nil) h q)
  rw [if_neg (by omega)] at hnx
  refine Run.skip ?_
  refine Run.again (l' := [(12, .int .i64 k), (11, .int .i64 n4), (10, .int .i64 n3), (9, .int .i64 n2), (8, .int .i64 n1), (5, .pointer (some ⟨b5, 0, none⟩)), (0, .pointer (some ⟨l, 0, none⟩))]) (H' := [DiskP d D]) ?_
    (.cons rfl (.cons rfl (.cons rfl (.cons rfl (.cons rfl (.cons rfl (.cons rfl .nil))))))) (fun h q => take_sub (.cons s0 .nil) h q)
  clear k3 x3 F3 hc1 hc3 hc4 c2 R4 ha1 a1 hu k1 x1
  have hrd : ∀ a c, a = some ⟨b5, 17, none⟩ ∨ 47 = 0 → RdB F2 (.slice a 47 c) ((u :: sr).drop 17) := by
    intro a c ha
    have := rdB_at hFs 47 (o := 17) (by omega) (a := a) (c := c) ha
    rwa [List.take_of_length_le (by rw [List.length_drop]; omega)] at this
  have hl17 : ((u :: sr).drop 17).length = 47 := by rw [List.length_drop]; omega
  clear k2 hFs
  generalize (u :: sr).drop 17 = b0 at *
  refine go ?_
  refine Ops.slA (l1 := 17) (h1 := 64) rfl rfl rfl (by omega) (by omega) fun a2 ha2 => ?_
  have hr2 := hrd a2 (64 - 17) ha2
  refine Ops.appN (m := 47) (ys := bvs b0) rfl rfl rfl (fun w h q f => by have := hr2.shows w h q f; rw [hl17] at this; exact this) (bvs_one b0) (by rw [bvs_len, hl17]; rfl) (by decide) (app_fit (by omega) (by decide)) fun a3 c3' => ?_
  refine go ?_
  refine Run.loopI (ι := Nat × Bytes × Option Addr × Nat) (fun x => k - x.1) (fun x => 1 ≤ x.1 ∧ x.1 ≤ k ∧ x.2.1.length = 47 + 63 * (x.1 - 1) ∧ gather D (L.base D L.pos) (k - 1) 1 b0 = gather D (L.base D L.pos) (k - x.1) x.1 x.2.1)
    (fun x => [(14, .int .i64 x.1), (13, .slice x.2.2.1 x.2.1.length x.2.2.2), (12, .int .i64 k), (11, .int .i64 n4), (10, .int .i64 n3), (9, .int .i64 n2), (8, .int .i64 n1), (0, .pointer (some ⟨l, 0, none⟩))])
    (fun x => [OwnS x.2.2.1 x.2.1.length x.2.2.2 1 5 (bvs x.2.1), DiskP d D])
    (1, b0, a3, c3') ⟨Nat.le_refl _, by dsimp only; omega, by dsimp only; omega, rfl⟩ (.cons rfl (.cons (by rw [hl17]; rfl) (.cons rfl (.cons rfl (.cons rfl (.cons rfl (.cons rfl (.cons rfl .nil)))))))) (fun h q => by rw [hl17]; exact q) ?_
  rintro ⟨j, acc, a4, c4'⟩ ⟨hj1, hjk, hal, hga⟩ ih
  dsimp only at hj1 hjk hal hga ih ⊢
  unfold ec_log_Log_next_L0
  refine go ?_
  refine Run.condD rfl (fun hlt => ?_) (fun hge => ?_)
  · have hlt' : j < k := by omega
    have hpj : L.pos + j < D.hf := by omega
    have hbj : L.base D (L.pos + j) = L.base D L.pos + j := by unfold LogS.base; omega
    have hlen2 := at_len hok hd (hb _ hpj)
    rw [hbj] at hlen2
    rw [show k - j = (k - (j + 1)) + 1 by omega] at hga
    simp only [gather] at hga
    have ih' := fun acc a c => ih (j + 1, acc, a, c)
    dsimp only at ih'
    clear ih
    refine go ?_
    refine Ops.ldF rfl hF2 rfl ?_
    refine go ?_
    have hcast : (L.pos : Int) + (j : Int) = ((L.pos + j : Nat) : Int) := by omega
    rw [hcast]
    refine Ops.call1 rfl (.cons s1 .nil) (fun F' e _ => log_read l d L a L.list.length c D hd (by omega) (L.pos + j) ok.half hpj hok F' (e _ _ hF2)) ?_
    rintro v G ⟨rfl, rfl⟩
    rw [hbj]
    simp only [List.cons_append, List.nil_append]
    generalize D.at_ (L.base D L.pos + j) = t at *
    refine go ?_
    refine Ops.alloc fun b6 => ?_
    refine Ops.stS hlen2 rfl rfl u0 ?_
    refine go ?_
    refine Run.condF rfl ?_
    obtain ⟨w, tr, htr⟩ := first_byte hlen2
    subst htr
    refine go ?_
    refine Ops.ixA rfl rfl ⟨by omega, by omega⟩ ?_
    refine Ops.ld (v := bv w) rfl m0 rfl ?_
    unfold bv
    refine Ops.q rfl rfl ?_
    by_cases hw : w = 3
    · have hc : decide ((w.toNat : Int) = 3) = true := by rw [decide_eq_true_iff, hw]; rfl
      simp only [hc, Bool.not_true]
      rw [if_pos (by rw [hw]; rfl)] at hga
      refine go ?_
      refine Run.condF rfl ?_
      refine go ?_
      refine Ops.slA (l1 := 1) (h1 := 64) rfl rfl rfl (by omega) (by omega) fun a5 ha5 => ?_
      have ha5' : a5 = some ⟨b6, 1, none⟩ := by
        rcases ha5 with h | h
        · exact h
        · omega
      subst ha5'
      have htl : ((w :: tr).drop 1).length = 63 := by rw [List.length_drop]; omega
      refine Ops.app (m := 63) (ys := bvs ((w :: tr).drop 1)) rfl rfl rfl s2 (shows_pt (s := 1) (L := bvs (w :: tr)) m0 (by rw [bvs_len]; omega) ?_) (bvs_one _) (by rw [bvs_len, htl]; rfl) (by decide) (app_fit (by omega) (by decide)) fun a6 c6 => ?_
      · rw [show bvs (w :: tr) = bv w :: bvs tr from rfl]
        simp only [List.drop_succ_cons, List.drop_zero] at htl ⊢
        rw [List.take_of_length_le]
        rw [bvs_len, htl]; exact Nat.le_refl _
      have hal2 : (acc ++ (w :: tr).drop 1).length = acc.length + 63 := by rw [List.length_append, htl]
      refine go ?_
      refine Run.lp (Run.again (ih' (acc ++ (w :: tr).drop 1) a6 c6 (by omega) ⟨by omega, by omega, by rw [hal2]; omega, hga⟩)
        (.cons rfl (.cons (by rw [hal2]; rfl) (.cons rfl (.cons rfl (.cons rfl (.cons rfl (.cons rfl (.cons rfl .nil)))))))) (fun h q => ?_))
      rw [hal2, bvs_app]
      exact take_sub (.cons s0 (.cons s1 .nil)) h q
    · have hc : decide ((w.toNat : Int) = 3) = false := by rw [decide_eq_false_iff_not]; intro e; exact hw (UInt8.toNat_inj.1 (by rw [show (3 : UInt8).toNat = 3 from rfl]; omega))
      simp only [hc, Bool.not_false]
      rw [if_neg (by simp only [List.getElem?_cons_zero, Option.some.injEq]; exact hw)] at hga
      rw [hga] at hnx
      refine go ?_
      refine Run.condT rfl ?_
      refine go ?_
      exact hnone hnx rfl rfl rfl (fun h q => take_sub (.cons s1 .nil) h q)
  · have hjk2 : j = k := by omega
    subst hjk2
    rw [Nat.sub_self] at hga
    simp only [gather] at hga
    rw [hga] at hnx
    refine Run.exit rfl ?_
    refine Run.open_ s0 fun G hG => ?_
    obtain ⟨bb, rfl⟩ : ∃ bb, a4 = some ⟨bb, 0, none⟩ := by
      rcases hG.2 with ⟨_, h, _⟩ | ⟨b, _, h, _⟩
      · omega
      · exact ⟨b, h⟩
    have hcp := hG.cap
    have hn1 : n1 ≤ acc.length := by omega
    refine go ?_
    refine Ops.slS (l1 := 0) (h1 := n1) rfl rfl rfl (Nat.zero_le _) (by omega) fun a7 ha7 => ?_
    have hrow : ∀ h, seps G h → seps [RowP (.slice a7 (n1 - 0) (c4' - 0)) (acc.take n1)] h := by
      intro h q
      have ha7' : a7 = some ⟨bb, 0, none⟩ ∨ n1 = 0 := ha7.imp (fun e => e) (fun e => e)
      rcases ha7' with rfl | rfl
      · obtain ⟨G', r1, q'⟩ := OwnI.front (c' := c4' - 0) hG hn1 h q
        exact ⟨h, noHp, (Split.empty h).symm, ⟨G', r1, q'⟩, trivial⟩
      · exact ⟨noHp, h, Split.empty h, ⟨[], ⟨a7, _, rfl, .inl ⟨rfl, rfl⟩⟩, trivial⟩, trivial⟩
    refine go1 ?_
    refine Ops.nil (Segs.nil ?_)
    refine Run.lendC G [RowP (.slice a7 (n1 - 0) (c4' - 0)) (acc.take n1)] (take_app G [DiskP d D]) hrow fun F4 x4 k4 => ?_
    have hrb : RdB F4 (.slice a7 (n1 - 0) (c4' - 0)) (acc.take n1) := (hG.rdB k4).take (c' := c4' - 0) hn1 ha7
    have htl : (acc.take n1).length = n1 := by rw [List.length_take]; omega
    clear k4 hrow hG
    have hnx2 : L.next D = if (crcOf ((le4 n2 ++ le4 n3) ++ acc.take n1) : Int) = n4 then some (acc.take n1, j) else none := hnx
    generalize acc.take n1 = bt at *
    simp only [Nat.sub_zero] at hrb ⊢
    refine go ?_
    refine Ops.call1 rfl .nil (fun F' _ _ => rec_Num n2 (by omega) F') ?_
    rintro v G1 ⟨b1, rfl, rfl⟩
    simp only [List.cons_append, List.nil_append]
    refine go ?_
    refine Ops.call1 rfl .nil (fun F' _ _ => rec_Num n3 (by omega) F') ?_
    rintro v G1 ⟨b2, rfl, rfl⟩
    simp only [List.cons_append, List.nil_append]
    refine go ?_
    refine Ops.lit [.slice (some ⟨b1, 0, none⟩) 4 4, .slice (some ⟨b2, 0, none⟩) 4 4] rfl rfl fun b3 => ?_
    refine go ?_
    refine Ops.call1 rfl .nil (fun F' e kn => (rec_Pack _ [le4 n2, le4 n3] F' (rdBB_mk0 (kn _ _ m0) (.cons (le4_rdB (kn _ _ m2)) (.cons (le4_rdB (kn _ _ m1)) .nil)) rfl) (by simp) (by simp [le4_len])).openS) ?_
    rintro v1 G1 ⟨a8, c8, rfl, hG1⟩
    obtain ⟨hn8, hrow1⟩ := hG1.row
    refine go1 ?_
    refine Ops.lit [_, _] rfl rfl fun b9 => ?_
    refine go1 ?_
    refine Ops.call1 rfl .nil (fun F' e kn => crc_Of _ [_, bt] F' (rdBB_mk0 (kn _ _ m0) (.cons (hrow1.rdB kn.tail.left) (.cons (hrb.ext e) .nil)) rfl) (by simp) (by simp [le4_len]; omega)) ?_
    rintro v1 G ⟨rfl, rfl⟩
    have hsum : crcOf [[le4 n2, le4 n3].flatten, bt].flatten = crcOf ((le4 n2 ++ le4 n3) ++ bt) := by simp
    rw [hsum]
    have hcl := crcOf_lt ((le4 n2 ++ le4 n3) ++ bt)
    generalize crcOf ((le4 n2 ++ le4 n3) ++ bt) = sum at *
    refine go1 ?_
    refine Ops.pE (v' := .int .u32 n4) rfl (by rw [wrap_u32 (by omega) (by omega)]) ?_
    refine go1 ?_
    refine Ops.nil (Segs.nil ?_)
    refine Run.conseq (H' := [DiskP d D]) (fun h q => take_sub (.cons s3 .nil) h (seps_right h (seps_tail q))) ?_
    by_cases hcr : (sum : Int) = n4
    · rw [if_pos hcr] at hnx2
      refine Run.condF (by simp [get, look, hcr]) ?_
      refine go ?_
      refine Run.ret Tryz.func137 (rs := [.tmp 2, .tmp 3, .tmp 4]) rfl (.tmp rfl (.tmp rfl (.tmp rfl .nil))) (fun h q => q) (.inr ?_)
      rw [hnx2]
      exact ⟨a7, c4', by rw [htl]; rfl, by rw [htl]; rfl⟩
    · rw [if_neg hcr] at hnx2
      refine Run.condT (by simp [get, look, hcr]) ?_
      refine go ?_
      refine Run.ret Tryz.func137 (rs := [.tmp 2, .tmp 3, .tmp 4]) rfl (.tmp rfl (.tmp rfl (.tmp rfl .nil))) (fun h q => q) (.inl ?_)
      rw [hnx2]
      exact ⟨rfl, rfl⟩
end Eng
end Go.Proofs.YtnfomoeicgdkkaaGreatDoor

/- The log is written anew. -/
set_option linter.unusedSimpArgs false
set_option linter.unusedVariables false
namespace Go.Proofs.YtnfomoeicgdkkaaGreatDoor

def total : List Bytes → Nat
  | [] => 0
  | b :: r => sectorsOf b.length + total r

theorem total_app (a b : List Bytes) : total (a ++ b) = total a + total b := by
  induction a with
  | nil => simp [total]
  | cons x a ih => simp only [List.cons_append, total, ih]; omega

theorem sectors_le {n : Nat} (h : n ≤ 4096) : sectorsOf n ≤ 66 ∧ 1 ≤ sectorsOf n := by unfold sectorsOf; omega

theorem total_le : ∀ (l : List Bytes), (∀ b ∈ l, b.length ≤ 4096) → total l ≤ 66 * l.length := by
  intro l
  induction l with
  | nil => intro _; exact Nat.le_refl _
  | cons b l ih =>
    intro h
    have h1 := ih (fun x hx => h x (.tail _ hx))
    have h2 := (sectors_le (h b (.head _))).1
    simp only [total, List.length_cons]; omega

def rw_ (L : LogS) (D : DiskS) : List Bytes → Int × LogS × DiskS
  | [] => (0, L, D)
  | b :: r => if (D.put (L.base D L.pos) (cutOf L.list.length L.epoch b)).1 = 0 then
      rw_ { L with pos := L.pos + sectorsOf b.length, list := L.list ++ [b] } (D.put (L.base D L.pos) (cutOf L.list.length L.epoch b)).2 r
    else ((D.put (L.base D L.pos) (cutOf L.list.length L.epoch b)).1, { L with dead := true }, (D.put (L.base D L.pos) (cutOf L.list.length L.epoch b)).2)

def headSect (e : Nat) : Bytes := 1 :: (le4 e ++ (le4 (crcOf (1 :: le4 e)) ++ List.replicate 55 0))

theorem headSect_len (e : Nat) : (headSect e).length = 64 := rfl

def LogS.anew (L : LogS) : LogS := { epoch := L.top + 1, top := L.top + 1, half := 1 - L.half, pos := 0, list := [], dead := L.dead }

def finish (L : LogS) (D : DiskS) : Int × DiskS := andThen D.flush fun D => andThen (D.write L.half (headSect L.epoch)) DiskS.flush

def endRw (x : Int × LogS × DiskS) : Int × LogS × DiskS :=
  if x.1 = 0 then ((finish x.2.1 x.2.2).1, { x.2.1 with dead := x.2.1.dead || decide ((finish x.2.1 x.2.2).1 ≠ 0) }, (finish x.2.1 x.2.2).2) else x

def LogS.rewrite (L : LogS) (D : DiskS) (list : List Bytes) : Int × LogS × DiskS :=
  if L.dead = true then (3, L, D) else if (∃ b ∈ list, 4096 < b.length) then (6, L, D) else if D.hf < total list then (7, L, D) else
    endRw (rw_ L.anew D list)

namespace Eng
attribute [local irreducible] Ops Segs Run Spec

set_option maxHeartbeats 1000000 in
theorem log_Rewrite (l d : Nat) (L : LogS) (D : DiskS) (ok : L.Ok D) (hc : D.cache.length + 5000 ≤ 1099511627776) (v : Value) (bss : List Bytes) (hn : bss.length ≤ 1099511627) (F : Hp) (hr : RdBB F v bss) :
    Spec Tryz.prog 136 [.pointer (some ⟨l, 0, none⟩), v].toArray F [LogP l d L, DiskP d D] fun v H => v = .int .i64 (L.rewrite D bss).1 ∧ H = [LogP l d (L.rewrite D bss).2.1, DiskP d (L.rewrite D bss).2.2] := by
  obtain ⟨oa, oc, rfl, hbb⟩ := hr
  have hsz := ok.disk.size
  have hhf := hf_le ok.disk
  have h6 := ok.size
  refine Spec.enter (n := 159) Tryz.func136 ok_log_Log_Rewrite rfl (by simp) ?_
  unfold ec_log_Log_Rewrite
  simp only [argFr, Nat.reduceAdd]
  refine Run.open_ s0 fun G ⟨a, c, vs, hh, hvl, hG⟩ => ?_
  subst hG
  simp only [List.cons_append, List.nil_append]
  have hfold : ∀ (L' : LogS) (a' : Option Addr) (c' : Nat) (vs' : List Value) (D' : DiskS), L'.half ≤ 1 → vs'.length = L'.list.length → ∀ h, seps [DiskP d D', .pt l (.cells (lcells d L' a' vs'.length c').toArray 233 (0, 0)), OwnS a' vs'.length c' 1 22 vs', RowsP vs' L'.list] h → seps [LogP l d L', DiskP d D'] h :=
    fun L' a' c' vs' D' hh hv h q => fold_grp (.cons s1 (.cons s1 (.cons s1 .nil))) ⟨a', c', vs', hh, hv, rfl⟩ h q
  refine go ?_
  generalize hres : L.rewrite D bss = res at *
  unfold LogS.rewrite at hres
  by_cases hd : L.dead = true
  · rw [if_pos hd] at hres
    subst hres
    refine Run.condT (by rw [← hd]; rfl) ?_
    refine go ?_
    exact Run.ret1 Tryz.func136 rfl rfl (fun h q => hfold L a c vs D hh hvl h (take_sub (.cons s3 (.cons s0 (.cons s0 (.cons s0 .nil)))) h q)) ⟨rfl, rfl⟩
  rw [if_neg hd] at hres
  refine Run.condF (by have : L.dead = false := by simpa using hd
                       rw [← this]; rfl) ?_
  refine go ?_
  refine Run.loopI (ι := Nat) (fun x => bss.length - x) (fun x => x ≤ bss.length ∧ ∀ b ∈ bss.take x, b.length ≤ 4096)
    (fun x => [(20, .int .i64 x), (19, .int .i64 bss.length), (18, .slice oa bss.length oc), (5, .int .i64 (total (bss.take x))), (0, .pointer (some ⟨l, 0, none⟩)), (1, .slice oa bss.length oc)])
    (fun x => [.pt l (.cells (lcells d L a vs.length c).toArray 233 (0, 0)), OwnS a vs.length c 1 22 vs, RowsP vs L.list, DiskP d D])
    0 ⟨Nat.zero_le _, by simp⟩ (.cons rfl (.cons rfl (.cons rfl (.cons rfl (.cons rfl (.cons rfl .nil)))))) (fun _ h => h) ?_
  rintro i ⟨hi, hall⟩ ih
  try dsimp only at hi hall ih ⊢
  unfold ec_log_Log_Rewrite_L1
  refine go ?_
  refine Run.condD rfl (fun hlt => ?_) (fun hge => ?_)
  · have hlt' : i < bss.length := by omega
    have hel : bss[i]? = some bss[i] := List.getElem?_eq_getElem hlt'
    have hmem : bss[i] ∈ bss := List.getElem_mem hlt'
    rcases hbb with hbb | ⟨ob, o, La, T, fz, rfl, hFb, hl, hrd⟩
    · rw [hbb] at hlt'; simp at hlt'
    obtain ⟨x, hx, hrx⟩ := hrd i _ hel
    have hnext : bss.take (i + 1) = bss.take i ++ [bss[i]] := by rw [List.take_succ_eq_append_getElem hlt']
    have hti : total (bss.take i) ≤ 66 * bss.length := by have := total_le _ hall; rw [List.length_take] at this; omega
    generalize bss[i] = b at *
    have ih' := ih (i + 1)
    rw [hnext, total_app] at ih'
    clear ih hnext
    generalize total (bss.take i) = n at *
    obtain ⟨xa, xc, rfl, _⟩ := id hrx
    refine go ?_
    refine Ops.ixS rfl rfl ⟨by omega, by omega⟩ ?_
    refine Ops.ldF rfl hFb (by rw [Int.toNat_natCast, Nat.mul_one]; exact hx) ?_
    refine go ?_
    refine Run.condD rfl (fun h4 => ?_) (fun h4 => ?_)
    · rw [if_pos ⟨b, hmem, by omega⟩] at hres
      subst hres
      refine go ?_
      exact Run.ret1 Tryz.func136 rfl rfl (fun h q => hfold L a c vs D hh hvl h (take_sub (.cons s3 (.cons s0 (.cons s0 (.cons s0 .nil)))) h q)) ⟨rfl, rfl⟩
    have hs66 := sectors_le (show b.length ≤ 4096 by omega)
    refine go ?_
    refine Ops.call1 rfl .nil (fun F' _ _ => log_sectors b.length (by omega) F') ?_
    rintro v G ⟨rfl, rfl⟩
    simp only [List.cons_append, List.nil_append]
    refine go ?_
    refine Run.lp (Run.again (ih' (by omega) ⟨by omega, ?_⟩) (.cons rfl (.cons rfl (.cons rfl (.cons ?_ (.cons rfl (.cons rfl .nil)))))) (fun h q => q))
    · intro y hy
      rcases List.mem_append.1 hy with hy | hy
      · exact hall y hy
      · rw [List.mem_singleton] at hy; subst hy; omega
    · simp only [total, Nat.add_zero]; rfl
  have hie : i = bss.length := by omega
  subst hie
  rw [List.take_length] at *
  clear ih
  have hno : ¬ ∃ b ∈ bss, 4096 < b.length := by
    rintro ⟨b, hb, h4⟩
    have := hall b hb; omega
  rw [if_neg hno] at hres
  refine Run.exit rfl ?_
  refine go ?_
  refine Ops.call1 rfl (.cons s3 .nil) (fun F' _ _ => log_half d D (by omega) F') ?_
  rintro v G ⟨rfl, rfl⟩
  simp only [List.cons_append, List.nil_append]
  refine go ?_
  refine Run.condD rfl (fun h5 => ?_) (fun h5 => ?_)
  · rw [if_pos (by omega)] at hres
    subst hres
    refine go ?_
    exact Run.ret1 Tryz.func136 rfl rfl (fun h q => hfold L a c vs D hh hvl h q) ⟨rfl, rfl⟩
  rw [if_neg (by omega)] at hres
  refine Run.skip ?_
  have htop := ok.top
  refine go ?_
  have hhalf : (1 : Int) - (L.half : Int) = ((1 - L.half : Nat) : Int) := by omega
  rw [hhalf]
  have hd' : L.dead = false := by simpa using hd
  have hLa : L.anew.half ≤ 1 ∧ L.anew.pos = 0 ∧ L.anew.list.length = 0 ∧ L.anew.epoch ≤ 4294967291 ∧ L.anew.dead = false := ⟨by simp only [LogS.anew]; omega, rfl, rfl, by simp only [LogS.anew]; omega, hd'⟩
  refine Run.conseq (H' := [.pt l (.cells (lcells d L.anew none 0 0).toArray 233 (0, 0)), OwnS none 0 0 1 22 [], RowsP [] [], DiskP d D])
    (fun h q => take_sub (.cons s2 (.cons s0 (.cons s0 (.cons s0 .nil)))) h (own_new h (fold_grp (I := RowsI [] []) .nil .nil h (take_sub (.cons s1 (.cons s0 .nil)) h q)))) ?_
  have htb : total bss ≤ D.hf := by omega
  have hlan : L.anew.list = [] := rfl
  generalize L.anew = La at *
  refine Run.loopI (ι := Nat × LogS × DiskS × Option Addr × Nat × List Value) (fun x => bss.length - x.1)
    (fun x => x.1 ≤ bss.length ∧ x.2.1.list.length = x.1 ∧ x.2.2.2.2.2.length = x.1 ∧ x.2.1.half ≤ 1 ∧ x.2.1.epoch ≤ 4294967291 ∧ x.2.1.dead = false ∧ x.2.1.pos + total (bss.drop x.1) ≤ D.hf ∧ x.2.1.list.length ≤ x.2.1.pos ∧
      x.2.2.1.Ok ∧ x.2.2.1.kept.length = D.kept.length ∧ x.2.2.1.cache.length ≤ D.cache.length + x.2.1.pos ∧ rw_ La D bss = rw_ x.2.1 x.2.2.1 (bss.drop x.1))
    (fun x => [(70, .int .i64 x.1), (69, .int .i64 bss.length), (68, .slice oa bss.length oc), (0, .pointer (some ⟨l, 0, none⟩))])
    (fun x => [.pt l (.cells (lcells d x.2.1 x.2.2.2.1 x.1 x.2.2.2.2.1).toArray 233 (0, 0)), OwnS x.2.2.2.1 x.1 x.2.2.2.2.1 1 22 x.2.2.2.2.2, RowsP x.2.2.2.2.2 x.2.1.list, DiskP d x.2.2.1])
    (0, La, D, none, 0, []) ⟨Nat.zero_le _, hLa.2.2.1, rfl, hLa.1, hLa.2.2.2.1, hLa.2.2.2.2, by simp only [List.drop_zero]; omega, by simp only; omega, ok.disk, rfl, by simp only; omega, rfl⟩
    (.cons rfl (.cons rfl (.cons rfl (.cons rfl .nil)))) (fun h q => by simp only [hlan]; exact q) ?_
  rintro ⟨i, L', D', a', c', ws⟩ ⟨hi, hll, hwl, hh', he', hd2, htot, hlp, hok', hkl, hcl, hrw⟩ ih
  dsimp only at hi hll hwl hh' he' hd2 htot hlp hok' hkl hcl hrw ih ⊢
  unfold ec_log_Log_Rewrite_L0
  refine go ?_
  refine Run.condD rfl (fun hlt => ?_) (fun hge => ?_)
  · have hlt' : i < bss.length := by omega
    have hel : bss[i]? = some bss[i] := List.getElem?_eq_getElem hlt'
    have hmem : bss[i] ∈ bss := List.getElem_mem hlt'
    have hb4 := hall _ hmem
    rcases hbb with hbb | ⟨ob, o, Lx, T, fz, rfl, hFb, hl, hrd⟩
    · rw [hbb] at hlt'; simp at hlt'
    obtain ⟨x, hx, hrx⟩ := hrd i _ hel
    have hdrop : bss.drop i = bss[i] :: bss.drop (i + 1) := List.drop_eq_getElem_cons hlt'
    generalize bss[i] = b at *
    rw [hdrop] at htot hrw
    simp only [total] at htot
    simp only [rw_] at hrw
    have ih' := fun L D a c w => ih (i + 1, L, D, a, c, w)
    dsimp only at ih'
    clear ih
    obtain ⟨xa, xc, rfl, _⟩ := id hrx
    have hs66 := sectors_le hb4
    have hf' := hf_eq hkl
    have hsz' := hok'.size
    have hcl' := cutOf_len L'.list.length L'.epoch b
    have hca := cutOf_all L'.list.length L'.epoch b
    refine go ?_
    refine Ops.ixS rfl rfl ⟨by omega, by omega⟩ ?_
    refine Ops.ldF rfl hFb (by rw [Int.toNat_natCast, Nat.mul_one]; exact hx) ?_
    refine go ?_
    refine Segs.lend [_] (.cons s0 .nil) fun F1 x1 k1 => ?_
    refine go ?_
    refine Ops.ldF rfl (k1 _ _ m0) rfl ?_
    refine Ops.call1 rfl .nil (fun F' e kn => log_cut l d L' a' i c' (by omega) i (by omega) _ b (by omega) F' ((hrx.ext x1).ext e) (e _ _ (k1 _ _ m0))) ?_
    rintro v G ⟨o2, rfl, rfl⟩
    simp only [List.cons_append, List.nil_append]
    rw [← hll, ← hcl']
    generalize cutOf L'.list.length L'.epoch b = ss at *
    refine Ops.nil (Segs.oneS rfl ?_)
    refine Ops.call1 rfl (.cons s4 .nil) (fun F' e kn => log_put l d L' a' i c' D' hok' (by omega) hh' L'.pos (by omega) _ ss (by omega) F' (rdS_cells (kn _ _ m1) hca rfl (Nat.le_refl _)) (by rw [← hll]; exact kn _ _ m0)) ?_
    rintro v G ⟨rfl, rfl⟩
    simp only [List.cons_append, List.nil_append]
    have hp2 := DiskS.put_spec ss D' (L'.base D' L'.pos) hok' hca (by omega)
    generalize D'.put (L'.base D' L'.pos) ss = r at *
    refine go ?_
    by_cases he : r.1 = 0
    · rw [if_pos he] at hrw
      refine Run.condF (by simp [he, get, look]) ?_
      refine Run.skip ?_
      refine Run.again (l' := [(9, .slice xa b.length xc), (70, .int .i64 L'.list.length), (69, .int .i64 bss.length), (68, .slice (some ⟨ob, o, none⟩) bss.length oc), (0, .pointer (some ⟨l, 0, none⟩))])
        (H' := [.pt l (.cells (lcells d L' a' L'.list.length c').toArray 233 (0, 0)), OwnS a' L'.list.length c' 1 22 ws, RowsP ws L'.list, DiskP d r.2]) ?_
        (.cons rfl (.cons rfl (.cons rfl (.cons rfl (.cons rfl .nil))))) (fun h q => take_sub (.cons s1 (.cons s2 (.cons s2 (.cons s0 .nil)))) h q)
      clear k1 x1 F1
      refine go ?_
      refine Segs.lend [_] (.cons s0 .nil) fun F1 x1 k1 => ?_
      refine go ?_
      refine Ops.ldF rfl (k1 _ _ m0) rfl ?_
      refine Ops.call1 rfl .nil (fun F' _ _ => log_sectors b.length (by omega) F') ?_
      rintro v G ⟨rfl, rfl⟩
      simp only [List.cons_append, List.nil_append]
      refine Ops.nil (Segs.oneS rfl ?_)
      refine go ?_
      clear k1 x1 F1
      refine Segs.lend [_] (.cons s0 .nil) fun F1 x1 k1 => ?_
      refine go ?_
      refine Ops.ldF rfl (k1 _ _ m0) rfl ?_
      refine Ops.appN (ys := bvs b) rfl rfl rfl (fun w h q f => (hrx.ext x1).shows w h q f) (bvs_one b) (by rw [bvs_len]; exact (Nat.mul_one _).symm) (by decide) (app_fit (by omega) (by decide)) fun a1 c1 => ?_
      refine Ops.lit [.slice a1 b.length c1] rfl rfl fun b1 => ?_
      refine Ops.nil (Segs.oneS rfl ?_)
      simp only [List.cons_append, List.nil_append]
      refine Ops.app (m := 1) (ys := [.slice a1 b.length c1]) rfl rfl rfl s3 (shows_pt m1 (Nat.le_refl 1) rfl) (fun v hv => by rw [List.mem_singleton] at hv; subst hv; rfl) rfl (by decide) (app_fit (by omega) (by decide)) fun a2 c2 => ?_
      refine go ?_
      refine Run.lp (Run.again (ih' { L' with pos := L'.pos + sectorsOf b.length, list := L'.list ++ [b] } r.2 a2 c2 (ws ++ [.slice a1 b.length c1]) (by omega)
        ⟨by omega, by simp [hll], by simp [hwl], hh', he', hd2, by dsimp only; omega, by simp only [List.length_append, List.length_singleton]; omega, hp2.1, by omega, by dsimp only; omega, hrw⟩)
        (.cons (by rw [← hll]; rfl) (.cons rfl (.cons rfl (.cons rfl .nil)))) (fun h q => ?_))
      rw [← hll]
      exact take_sub (.cons s1 (.cons s1 (.cons s0 (.cons s0 .nil)))) h (rows_snoc h (take_sub (.cons s4 (.cons s3 (.cons s1 (.cons s0 (.cons s1 .nil))))) h q))
    · rw [if_neg he] at hrw
      rw [hrw] at hres
      unfold endRw at hres
      rw [if_neg he] at hres
      subst hres
      refine Run.condT (by simp [he, get, look]) ?_
      refine go ?_
      refine Ops.call1 rfl (.cons s1 .nil) (fun F' e kn => log_die l d L' a' L'.list.length c' r.1 F') ?_
      rintro v G ⟨rfl, rfl⟩
      simp only [List.cons_append, List.nil_append]
      refine go ?_
      refine Run.ret1 Tryz.func136 rfl rfl (fun h q => hfold { L' with dead := true } a' c' ws r.2 hh' (by rw [hwl, hll]) h ?_) ⟨rfl, rfl⟩
      have : (L'.dead || decide (r.1 ≠ 0)) = true := by simp [he]
      rw [this] at q
      rw [hwl, ← hll]
      exact take_sub (.cons s1 (.cons s0 (.cons s1 (.cons s1 .nil)))) h q
  · have hie2 : i = bss.length := by omega
    subst hie2
    rw [List.drop_length] at hrw
    simp only [rw_] at hrw
    rw [hrw] at hres
    unfold endRw at hres
    rw [if_pos rfl] at hres
    dsimp only at hres
    refine Run.exit rfl ?_
    have hcb : D'.cache.length + 100 ≤ 1099511627776 := by omega
    clear ih hrw hge htot hlp hLa
    have hsz' := hok'.size
    have hfin : finish L' D' = if D'.flush.1 = 0 then (if (D'.flush.2.write L'.half (headSect L'.epoch)).1 = 0 then (D'.flush.2.write L'.half (headSect L'.epoch)).2.flush else D'.flush.2.write L'.half (headSect L'.epoch)) else D'.flush := rfl
    generalize finish L' D' = fin at *
    have hfc := DiskS.flush_cache D'
    have hok1 := hok'.flush
    have hk1 := DiskS.flush_kept_len D'
    refine go ?_
    refine Ops.call1 rfl (.cons s3 .nil) (fun F' _ _ => disk_Flush d D' F') ?_
    rintro v G ⟨rfl, rfl⟩
    simp only [List.cons_append, List.nil_append]
    generalize D'.flush = r1 at *
    refine go ?_
    by_cases he1 : r1.1 = 0
    case neg =>
      rw [if_neg he1] at hfin
      subst hfin
      subst hres
      refine Run.condT (by simp [he1, get, look]) ?_
      refine go ?_
      refine Ops.call1 rfl (.cons s1 .nil) (fun F' e kn => log_die l d L' a' bss.length c' fin.1 F') ?_
      rintro v G ⟨rfl, rfl⟩
      simp only [List.cons_append, List.nil_append]
      refine go ?_
      refine Run.ret1 Tryz.func136 rfl rfl (fun h q => hfold { L' with dead := L'.dead || decide (fin.1 ≠ 0) } a' c' ws fin.2 hh' (by rw [hwl, hll]) h ?_) ⟨rfl, rfl⟩
      rw [hwl]
      exact take_sub (.cons s1 (.cons s0 (.cons s0 (.cons s0 .nil)))) h q
    rw [if_pos he1] at hfin
    refine Run.condF (by simp [he1, get, look]) ?_
    refine Run.skip ?_
    refine Run.again (l' := [(0, .pointer (some ⟨l, 0, none⟩))]) (H' := [.pt l (.cells (lcells d L' a' bss.length c').toArray 233 (0, 0)), OwnS a' bss.length c' 1 22 ws, RowsP ws L'.list, DiskP d r1.2]) ?_
      (.cons rfl .nil) (fun h q => take_sub (.cons s1 (.cons s1 (.cons s1 (.cons s0 .nil)))) h q)
    refine Run.seq (Run.reg (Segs.oneS rfl (Ops.alloc fun b12 => ?_)))
    refine go ?_
    refine Ops.ixA rfl rfl ⟨by omega, by omega⟩ ?_
    refine Ops.st0 rfl rfl rfl rfl u0 (by simp [zl64_intu80]) ?_
    have hs0 : zl64_intu80.set (0 + Int.toNat 0 * 1) (Value.int .u8 1) = bvs (1 :: List.replicate 63 0) := rfl
    rw [hs0]
    refine go ?_
    refine Ops.slA (l1 := 1) (h1 := 64) rfl rfl rfl (by omega) (by omega) fun a1 ha1 => ?_
    have ha1' : a1 = some ⟨b12, 1, none⟩ := by
      rcases ha1 with h | h
      · exact h
      · omega
    subst ha1'
    refine go ?_
    refine Ops.call1 rfl .nil (fun F' _ _ => rec_Num L'.epoch (by omega) F') ?_
    rintro v G ⟨bq, rfl, rfl⟩
    simp only [List.cons_append, List.nil_append]
    refine go ?_
    refine Ops.cpy (s := 1) (m := 4) (vs := bvs (le4 L'.epoch)) rfl rfl rfl (shows_pt m0 (Nat.le_refl 4) rfl) (bvs_one _) u1 (show 5 ≤ 64 by decide) ?_
    have hs1 : List.take 1 (bvs (1 :: List.replicate 63 0)) ++ bvs (le4 L'.epoch) ++ List.drop (1 + (bvs (le4 L'.epoch)).length) (bvs (1 :: List.replicate 63 0)) = bvs (1 :: (le4 L'.epoch ++ List.replicate 59 0)) := rfl
    rw [hs1]
    refine Ops.nil (Segs.nil (Run.again (l' := [(12, .pointer (some ⟨b12, 0, none⟩)), (0, .pointer (some ⟨l, 0, none⟩))])
      (H' := [.pt b12 (.cells (bvs (1 :: (le4 L'.epoch ++ List.replicate 59 0))).toArray 235 (0, 0)), .pt l (.cells (lcells d L' a' bss.length c').toArray 233 (0, 0)), OwnS a' bss.length c' 1 22 ws, RowsP ws L'.list, DiskP d r1.2]) ?_
      (.cons rfl (.cons rfl .nil)) (fun h q => take_sub (.cons s1 (.cons s1 (.cons s1 (.cons s1 (.cons s1 .nil))))) h q)))
    refine go ?_
    refine Ops.slA (l1 := 5) (h1 := 64) rfl rfl rfl (by omega) (by omega) fun a1 ha1 => ?_
    have ha1' : a1 = some ⟨b12, 5, none⟩ := by
      rcases ha1 with h | h
      · exact h
      · omega
    subst ha1'
    refine Ops.slA (l1 := 0) (h1 := 5) rfl rfl rfl (by omega) (by omega) fun a2 ha2 => ?_
    refine Ops.lit [.slice a2 5 64] rfl rfl fun b9 => ?_
    refine go ?_
    refine Ops.call1 rfl .nil (fun F' e kn => crc_Of _ [1 :: le4 L'.epoch] F' (rdBB_mk0 (kn _ _ m0) (.cons (rdB_at (kn _ _ m1) 5 (o := 0) (by simp [le4_len]) ha2) .nil) rfl) (by simp) (by simp [le4_len])) ?_
    rintro v G ⟨rfl, rfl⟩
    simp only [List.cons_append, List.nil_append]
    have hsum : crcOf [1 :: le4 L'.epoch].flatten = crcOf (1 :: le4 L'.epoch) := by simp
    rw [hsum]
    have hcl := crcOf_lt (1 :: le4 L'.epoch)
    have hhs : headSect L'.epoch = 1 :: (le4 L'.epoch ++ (le4 (crcOf (1 :: le4 L'.epoch)) ++ List.replicate 55 0)) := rfl
    generalize crcOf (1 :: le4 L'.epoch) = sum at *
    refine Ops.nil (Segs.oneS rfl ?_)
    refine Ops.pE (v' := .int .i64 sum) rfl (by rw [wrap_i64 (by omega) (by omega)]) ?_
    refine Ops.call1 rfl .nil (fun F' _ _ => rec_Num sum hcl F') ?_
    rintro v G ⟨bq2, rfl, rfl⟩
    simp only [List.cons_append, List.nil_append]
    refine go ?_
    refine Ops.cpy (s := 1) (m := 4) (vs := bvs (le4 sum)) rfl rfl rfl (shows_pt m0 (Nat.le_refl 4) rfl) (bvs_one _) u2 (show 9 ≤ 64 by decide) ?_
    have hs2 : List.take 5 (bvs (1 :: (le4 L'.epoch ++ List.replicate 59 0))) ++ bvs (le4 sum) ++ List.drop (5 + (bvs (le4 sum)).length) (bvs (1 :: (le4 L'.epoch ++ List.replicate 59 0))) = bvs (1 :: (le4 L'.epoch ++ (le4 sum ++ List.replicate 55 0))) := rfl
    rw [hs2, ← hhs]
    have hhl := headSect_len L'.epoch
    generalize headSect L'.epoch = hs at *
    refine Ops.nil (Segs.nil (Run.again (l' := [(12, .pointer (some ⟨b12, 0, none⟩)), (0, .pointer (some ⟨l, 0, none⟩))])
      (H' := [.pt l (.cells (lcells d L' a' bss.length c').toArray 233 (0, 0)), .pt b12 (.cells (bvs hs).toArray 235 (0, 0)), OwnS a' bss.length c' 1 22 ws, RowsP ws L'.list, DiskP d r1.2]) ?_
      (.cons rfl (.cons rfl .nil)) (fun h q => take_sub (.cons s3 (.cons s2 (.cons s2 (.cons s2 (.cons s2 .nil))))) h q)))
    refine go ?_
    refine Segs.lend [_, _] (.cons s0 (.cons s0 .nil)) fun F1 x1 k1 => ?_
    refine go ?_
    refine Ops.ldF rfl (k1 _ _ m0) rfl ?_
    refine Ops.ldF rfl (k1 _ _ m0) rfl ?_
    refine Ops.ldnF rfl (k1 _ _ m1) (by rw [bvs_len, hhl]; exact Nat.le_refl 64) ?_
    rw [List.drop_zero, List.take_of_length_le (show (bvs hs).length ≤ 64 by rw [bvs_len, hhl]; exact Nat.le_refl 64)]
    refine Ops.nil (Segs.oneS rfl ?_)
    simp only [List.cons_append, List.nil_append]
    refine Ops.call1 rfl (.cons s4 .nil) (fun F' _ _ => disk_Write d r1.2 (by omega) _ hs hhl F') ?_
    rintro v G ⟨rfl, rfl⟩
    simp only [List.cons_append, List.nil_append]
    generalize r1.2.write (L'.half : Int) hs = r2 at *
    refine go ?_
    by_cases he2 : r2.1 = 0
    · rw [if_pos he2] at hfin
      refine Run.condF (by simp [he2, get, look]) ?_
      refine go ?_
      refine Ops.call1 rfl (.cons s0 .nil) (fun F' _ _ => disk_Flush d r2.2 F') ?_
      rintro v G ⟨rfl, rfl⟩
      simp only [List.cons_append, List.nil_append]
      rw [← hfin]
      subst hres
      refine Ops.call1 rfl (.cons s1 .nil) (fun F' e kn => log_die l d L' a' bss.length c' fin.1 F') ?_
      rintro v G ⟨rfl, rfl⟩
      simp only [List.cons_append, List.nil_append]
      refine go ?_
      refine Run.ret1 Tryz.func136 rfl rfl (fun h q => hfold { L' with dead := L'.dead || decide (fin.1 ≠ 0) } a' c' ws fin.2 hh' (by rw [hwl, hll]) h ?_) ⟨rfl, rfl⟩
      rw [hwl]
      exact take_sub (.cons s1 (.cons s0 (.cons s1 (.cons s1 .nil)))) h q
    · rw [if_neg he2] at hfin
      subst hfin
      subst hres
      refine Run.condT (by simp [he2, get, look]) ?_
      refine go ?_
      refine Ops.call1 rfl (.cons s1 .nil) (fun F' e kn => log_die l d L' a' bss.length c' fin.1 F') ?_
      rintro v G ⟨rfl, rfl⟩
      simp only [List.cons_append, List.nil_append]
      refine go ?_
      refine Run.ret1 Tryz.func136 rfl rfl (fun h q => hfold { L' with dead := L'.dead || decide (fin.1 ≠ 0) } a' c' ws fin.2 hh' (by rw [hwl, hll]) h ?_) ⟨rfl, rfl⟩
      rw [hwl]
      exact take_sub (.cons s1 (.cons s0 (.cons s1 (.cons s1 .nil)))) h q
end Eng
end Go.Proofs.YtnfomoeicgdkkaaGreatDoor

/- The log that lies on a disk. -/
set_option linter.unusedSimpArgs false
set_option linter.unusedVariables false
namespace Go.Proofs.YtnfomoeicgdkkaaGreatDoor

def mkL (e h : Nat) : LogS := ⟨e, 0, h, 0, [], false⟩

def headN (D : DiskS) : Nat → Nat → LogS → LogS
  | 0, _, L => L
  | n + 1, i, L => headN D n (i + 1) (if (goodOf (D.at_ i)).2 = true ∧ (L.epoch : Int) < (goodOf (D.at_ i)).1 then { L with epoch := (goodOf (D.at_ i)).1.toNat, half := i } else L)

def scanN : Nat → LogS → DiskS → LogS
  | 0, L, _ => L
  | n + 1, L, D => match L.next D with
    | none => L
    | some (b, k) => scanN n { L with pos := L.pos + k, list := L.list ++ [b] } D

def headS (D : DiskS) : LogS := headN D 2 0 (mkL 0 0)
def lookS (D : DiskS) : LogS := { headS D with top := lookN D (D.kept.length - 2) 2 (headS D).epoch }

def openS (D : DiskS) : Int × Option LogS × DiskS :=
  if D.kept.length < 6 then (1, none, D) else
    if (headS D).epoch = 0 then (if ((lookS D).rewrite D []).1 = 0 then (0, some ((lookS D).rewrite D []).2.1, ((lookS D).rewrite D []).2.2) else (((lookS D).rewrite D []).1, none, ((lookS D).rewrite D []).2.2))
    else (0, some (scanN (D.hf + 1) (lookS D) D), D)

theorem goodOf_range (s : Bytes) : 0 ≤ (goodOf s).1 ∧ (goodOf s).1 ≤ 2147483648 := by
  unfold goodOf
  split
  · exact ⟨by decide, by decide⟩
  · exact Rd.num_range (by omega) _

theorem next_some {L : LogS} {D : DiskS} {b : Bytes} {k : Nat} (h : L.next D = some (b, k)) : 1 ≤ k ∧ L.pos + k ≤ D.hf := by
  unfold LogS.next at h
  split at h
  · cases h
  · dsimp only at h
    split at h
    · split at h
      · cases h
      · split at h
        · split at h
          · split at h
            · cases h
            · split at h
              · cases h
              · split at h
                · simp only [Option.some.injEq, Prod.mk.injEq] at h
                  obtain ⟨_, rfl⟩ := h
                  refine ⟨?_, by omega⟩
                  unfold sectorsOf; omega
                · cases h
          · cases h
        · cases h
    · cases h

namespace Eng
theorem rows_snocR {vs : List Value} {bss : List Bytes} {b : Bytes} {v : Value} {H : List HA} : ∀ h, seps (RowsP vs bss :: RowP v b :: H) h → seps (RowsP (vs ++ [v]) (bss ++ [b]) :: H) h := by
  intro h ⟨x, y, sp, ⟨G1, h1, q1⟩, ⟨x2, y2, sp2, ⟨G2, h2, q2⟩, qr⟩⟩
  have q : seps (G1 ++ (G2 ++ H)) h := seps_append.2 ⟨x, y, sp, q1, seps_append.2 ⟨x2, y2, sp2, q2, qr⟩⟩
  rw [← List.append_assoc] at q
  obtain ⟨x3, y3, sp3, q3, qr3⟩ := seps_append.1 q
  exact ⟨x3, y3, sp3, ⟨G1 ++ G2, h1.snoc h2, q3⟩, qr3⟩

def OpenR (d : Nat) (o : Int × Option LogS × DiskS) (v : Value) (H : List HA) : Prop := match o.2.1 with
  | some L => ∃ l, v = .tuple [.pointer (some ⟨l, 0, none⟩), .int .i64 o.1].toArray ∧ H = [LogP l d L, DiskP d o.2.2]
  | none => v = .tuple [.pointer none, .int .i64 o.1].toArray ∧ H = [DiskP d o.2.2]

attribute [local irreducible] Ops Segs Run Spec

set_option maxHeartbeats 1000000 in
theorem log_Open (d : Nat) (D : DiskS) (hok : D.Ok) (hd : D.down = false) (hc : D.cache.length + 5000 ≤ 1099511627776) (F : Hp) :
    Spec Tryz.prog 83 [.pointer (some ⟨d, 0, none⟩)].toArray F [DiskP d D] (OpenR d (openS D)) := by
  have hsz := hok.size
  generalize hres : openS D = res at *
  unfold openS at hres
  refine Spec.enter (n := 104) Tryz.func83 ok_log_Open rfl (by simp) ?_
  unfold ec_log_Open
  simp only [argFr, Nat.reduceAdd]
  refine go ?_
  refine Ops.call1 rfl (.cons s0 .nil) (fun F' _ _ => disk_Len d D F') ?_
  rintro v G ⟨rfl, rfl⟩
  simp only [List.cons_append, List.nil_append]
  refine go ?_
  refine Run.condD rfl (fun h6 => ?_) (fun h6 => ?_)
  · rw [if_pos (by omega)] at hres
    subst hres
    refine go ?_
    exact Run.ret2 Tryz.func83 rfl rfl rfl (fun h q => q) ⟨rfl, rfl⟩
  rw [if_neg (by omega)] at hres
  refine Run.skip ?_
  have h6' : 6 ≤ D.kept.length := by omega
  refine go ?_
  refine Ops.bld (lcells d (mkL 0 0) none 0 0) rfl rfl ?_
  refine Ops.box rfl rfl fun l => ?_
  simp only [vcells]
  refine go ?_
  refine Run.loopI (ι := Nat × Nat × Nat) (fun x => 2 - x.1) (fun x => x.1 ≤ 2 ∧ x.2.1 ≤ 2147483648 ∧ x.2.2 ≤ 1 ∧ headS D = headN D (2 - x.1) x.1 (mkL x.2.1 x.2.2))
    (fun x => [(21, .int .i64 x.1), (4, .pointer (some ⟨l, 0, none⟩)), (0, .pointer (some ⟨d, 0, none⟩))])
    (fun x => [.pt l (.cells (lcells d (mkL x.2.1 x.2.2) none 0 0).toArray 233 (0, 0)), DiskP d D])
    (0, 0, 0) ⟨by decide, by decide, by decide, rfl⟩ (.cons rfl (.cons rfl (.cons rfl .nil))) (fun _ h => h) ?_
  rintro ⟨i, e, hf⟩ ⟨hi, he, hhf, hh⟩ ih
  dsimp only at hi he hhf hh ih ⊢
  unfold ec_log_Open_L1
  refine go ?_
  refine Run.condD rfl (fun hlt => ?_) (fun hge => ?_)
  · have hlt' : i < 2 := by omega
    have hil : i < D.kept.length := by omega
    have hlen := at_len hok hd hil
    rw [show 2 - i = (2 - (i + 1)) + 1 by omega] at hh
    simp only [headN] at hh
    have ih' := fun e h => ih (i + 1, e, h)
    dsimp only at ih'
    clear ih
    refine go ?_
    refine Ops.call1 rfl (.cons s1 .nil) (fun F' _ _ => disk_Read d D _ F') ?_
    rintro v G ⟨rfl, rfl⟩
    rw [DiskS.read_at hd hil]
    simp only [List.cons_append, List.nil_append]
    generalize D.at_ i = s at *
    refine go ?_
    refine Ops.alloc fun b6 => ?_
    refine Ops.stS hlen rfl rfl u0 ?_
    refine go ?_
    refine Run.condF rfl ?_
    refine go ?_
    refine Ops.ldn rfl m0 (by rw [bvs_len, hlen]; exact Nat.le_refl 64) ?_
    rw [List.drop_zero, List.take_of_length_le (show (bvs s).length ≤ 64 by rw [bvs_len, hlen]; exact Nat.le_refl 64)]
    refine Ops.call1 rfl .nil (fun F' _ _ => log_good _ s hlen F') ?_
    rintro v G ⟨rfl, rfl⟩
    simp only [List.nil_append]
    have hgr := goodOf_range s
    generalize goodOf s = g at *
    obtain ⟨ge, gb⟩ := g
    dsimp only at *
    refine go ?_
    cases gb with
    | false =>
      rw [if_neg (by simp)] at hh
      refine go ?_
      refine Run.condF rfl ?_
      refine go ?_
      exact Run.lp (Run.again (ih' e hf (by omega) ⟨by omega, he, hhf, hh⟩) (.cons rfl (.cons rfl (.cons rfl .nil))) (fun h q => take_sub (.cons s2 (.cons s1 .nil)) h q))
    | true =>
      refine go ?_
      refine Run.condD (p := (e : Int) < ge) rfl (fun hlt2 => ?_) (fun hge2 => ?_)
      · rw [if_pos ⟨rfl, hlt2⟩] at hh
        obtain ⟨n, rfl⟩ := Int.eq_ofNat_of_zero_le hgr.1
        simp only [Int.toNat_natCast] at hh
        refine go ?_
        exact Run.lp (Run.again (ih' n i (by omega) ⟨by omega, by omega, by omega, hh⟩) (.cons rfl (.cons rfl (.cons rfl .nil))) (fun h q => take_sub (.cons s2 (.cons s1 .nil)) h q))
      · rw [if_neg (fun x => hge2 x.2)] at hh
        refine go ?_
        exact Run.lp (Run.again (ih' e hf (by omega) ⟨by omega, he, hhf, hh⟩) (.cons rfl (.cons rfl (.cons rfl .nil))) (fun h q => take_sub (.cons s2 (.cons s1 .nil)) h q))
  have hi2 : i = 2 := by omega
  subst hi2
  simp only [Nat.sub_self, headN] at hh
  clear ih
  refine Run.exit rfl ?_
  refine go ?_
  refine Ops.call1 rfl (.cons s0 (.cons s0 .nil)) (fun F' _ _ => log_look l d (mkL e hf) none 0 0 D hok hd F') ?_
  rintro v G ⟨rfl, rfl⟩
  simp only [List.cons_append, List.nil_append]
  have hlk : lookS D = { mkL e hf with top := lookN D (D.kept.length - 2) 2 (mkL e hf).epoch } := by unfold lookS; rw [hh]
  rw [← hlk]
  have htop : (lookS D).top ≤ 2147483648 := by rw [hlk]; exact lookN_le D (Nat.le_refl _) _ _ _ he
  have hL : (lookS D).epoch = e ∧ (lookS D).half = hf ∧ (lookS D).pos = 0 ∧ (lookS D).list = [] := by rw [hlk]; exact ⟨rfl, rfl, rfl, rfl⟩
  have hee : (headS D).epoch = e := by rw [hh]; rfl
  rw [hee] at hres
  obtain ⟨hLe, hLh, hLp, hLl⟩ := hL
  have hhfd : D.hf * 2 + 2 ≤ D.kept.length := by unfold DiskS.hf; omega
  have lok : (lookS D).Ok D := ⟨by omega, by omega, by omega, by omega, by rw [hLl, hLp]; exact Nat.le_refl 0, hok, h6'⟩
  generalize lookS D = L at *
  clear hlk hh hee
  refine go ?_
  refine Run.condF rfl ?_
  refine go ?_
  by_cases h0 : e = 0
  · rw [if_pos h0] at hres
    refine Run.condT (by simp [get, look, hLe, h0]) ?_
    refine Run.conseq (H' := [LogP l d L, DiskP d D]) (fun h q => ?_) ?_
    · have q2 : seps [RowsP [] L.list, OwnS none 0 0 1 22 [], .pt l (.cells (lcells d L none 0 0).toArray 233 (0, 0)), DiskP d D] h := by
        rw [hLl]; exact fold_grp (I := RowsI [] []) .nil .nil h (own_new h q)
      exact fold_grp (I := LogI l d L) (.cons s2 (.cons s1 (.cons s0 .nil))) ⟨none, 0, [], by omega, by rw [hLl]; rfl, rfl⟩ h q2
    refine go ?_
    refine Ops.call1 rfl (.cons s0 (.cons s0 .nil)) (fun F' _ _ => log_Rewrite l d L D lok hc _ [] (by simp) F' ⟨none, 0, rfl, .inl rfl⟩) ?_
    rintro v G ⟨rfl, rfl⟩
    simp only [List.cons_append, List.nil_append]
    generalize L.rewrite D [] = r at *
    refine go ?_
    by_cases he : r.1 = 0
    · rw [if_pos he] at hres
      subst hres
      refine Run.condF (by simp [he, get, look]) ?_
      refine go ?_
      exact Run.ret2 Tryz.func83 rfl rfl rfl (fun h q => q) ⟨l, rfl, rfl⟩
    · rw [if_neg he] at hres
      subst hres
      refine Run.condT (by simp [he, get, look]) ?_
      refine go ?_
      exact Run.ret2 Tryz.func83 rfl rfl rfl (fun h q => take_sub (.cons s1 .nil) h q) ⟨rfl, rfl⟩
  rw [if_neg h0] at hres
  refine Run.condF (by simp [get, look, hLe, h0]) ?_
  refine go ?_
  have hhf2 := hf_le hok
  refine Run.loopI (ι := LogS × Nat × Option Addr × Nat × List Value) (fun x => D.hf + 1 - x.1.pos) (fun x => x.1.Ok D ∧ x.2.2.2.2.length = x.1.list.length ∧ D.hf < x.2.1 + x.1.pos ∧ res = (0, some (scanN x.2.1 x.1 D), D))
    (fun x => [(4, .pointer (some ⟨l, 0, none⟩))])
    (fun x => [.pt l (.cells (lcells d x.1 x.2.2.1 x.1.list.length x.2.2.2.1).toArray 233 (0, 0)), OwnS x.2.2.1 x.1.list.length x.2.2.2.1 1 22 x.2.2.2.2, RowsP x.2.2.2.2 x.1.list, DiskP d D])
    (L, D.hf + 1, none, 0, []) ⟨lok, by rw [hLl]; rfl, by simp only; omega, hres.symm⟩ (.cons rfl .nil) ?_ ?_
  · intro h q
    simp only [hLl]
    exact take_sub (.cons s2 (.cons s0 (.cons s0 (.cons s0 .nil)))) h (own_new h (fold_grp (I := RowsI [] []) .nil .nil h q))
  rintro ⟨L', fu, a, c, vs⟩ ⟨lok', hvl, hfu, hsc⟩ ih
  dsimp only at hvl hfu hsc ih lok' ⊢
  unfold ec_log_Open_L0
  have hp' := lok'.pos
  have hl' := lok'.list
  refine go ?_
  refine Ops.call1 rfl (.cons s3 .nil) (fun F' e kn => log_next l d L' a c D lok' hd F' (kn _ _ m0)) ?_
  intro v G hv
  cases hnx : L'.next D with
  | none =>
    rw [hnx] at hv
    obtain ⟨rfl, rfl⟩ := hv
    simp only [List.cons_append, List.nil_append]
    refine go ?_
    refine Run.condF rfl ?_
    refine go ?_
    refine Run.condT rfl ?_
    refine go ?_
    have hs : scanN fu L' D = L' := by
      cases fu with
      | zero => rfl
      | succ n => simp only [scanN, hnx]
    rw [hs] at hsc
    subst hsc
    refine Run.ret2 Tryz.func83 rfl rfl rfl (fun h q => ?_) ⟨l, rfl, rfl⟩
    rw [← hvl] at q
    exact fold_grp (I := LogI l d L') (.cons s1 (.cons s1 (.cons s1 .nil))) ⟨a, c, vs, lok'.half, hvl, rfl⟩ h q
  | some bk =>
    obtain ⟨b, k⟩ := bk
    rw [hnx] at hv
    obtain ⟨xa, xc, rfl, rfl⟩ := hv
    simp only [List.cons_append, List.nil_append]
    have hk := next_some hnx
    obtain ⟨fu, rfl⟩ : ∃ n, fu = n + 1 := ⟨fu - 1, by omega⟩
    simp only [scanN, hnx] at hsc
    refine go ?_
    refine Run.condF rfl ?_
    refine go ?_
    refine Run.condF (by simp [get, look]; omega) ?_
    refine go ?_
    refine Segs.lend [_] (.cons s2 .nil) fun F1 x1 k1 => ?_
    refine go ?_
    refine Ops.ldF rfl (k1 _ _ m0) rfl ?_
    refine Ops.ldF rfl (k1 _ _ m0) rfl ?_
    refine go ?_
    refine Ops.lit [.slice xa b.length xc] rfl rfl fun b1 => ?_
    refine Ops.app (m := 1) (ys := [.slice xa b.length xc]) rfl rfl rfl s3 (shows_pt m0 (Nat.le_refl 1) rfl) (fun v hv => by rw [List.mem_singleton] at hv; subst hv; rfl) rfl (by decide) (app_fit (by omega) (by decide)) fun a2 c2 => ?_
    refine go ?_
    refine Run.lp (Run.again (ih ({ L' with pos := L'.pos + k, list := L'.list ++ [b] }, fu, a2, c2, vs ++ [.slice xa b.length xc]) (by dsimp only; omega) ⟨⟨lok'.half, by dsimp only; omega, lok'.epoch, lok'.top, by simp only [List.length_append, List.length_singleton]; omega, hok, h6'⟩, by simp [hvl], by dsimp only; omega, hsc⟩) (.cons rfl .nil) (fun h q => ?_))
    have hl1 : (L'.list ++ [b]).length = L'.list.length + 1 := by simp
    dsimp only
    rw [hl1]
    exact take_sub (.cons s1 (.cons s1 (.cons s0 (.cons s0 .nil)))) h (rows_snocR h (take_sub (.cons s5 (.cons s4 (.cons s0 (.cons s0 (.cons s1 .nil))))) h q))
end Eng
end Go.Proofs.YtnfomoeicgdkkaaGreatDoor

/- What the log's plain functions keep. -/
set_option linter.unusedSimpArgs false
set_option linter.unusedVariables false
namespace Go.Proofs.YtnfomoeicgdkkaaGreatDoor

theorem andThen_spec {x : Int × DiskS} {f : DiskS → Int × DiskS} {p : DiskS → Prop} (h1 : p x.2) (h2 : ∀ D, p D → p (f D).2) : p (andThen x f).2 := by
  unfold andThen; split
  · exact h2 _ h1
  · exact h1

/-- as it was, but for at most so many writes more -/
structure Near (D : DiskS) (n : Nat) (D' : DiskS) : Prop where
  ok : D'.Ok
  size : D'.kept.length = D.kept.length
  cache : D'.cache.length ≤ D.cache.length + n

theorem Near.refl {D : DiskS} (h : D.Ok) : Near D 0 D := ⟨h, rfl, Nat.le_refl _⟩
theorem Near.flush {D D' : DiskS} {n : Nat} (h : Near D n D') : Near D n D'.flush.2 :=
  ⟨h.ok.flush, by rw [DiskS.flush_kept_len]; exact h.size, Nat.le_trans (DiskS.flush_cache D') h.cache⟩
theorem Near.mono {D D' : DiskS} {n m : Nat} (h : Near D n D') (hm : n ≤ m) : Near D m D' := ⟨h.ok, h.size, by have := h.cache; omega⟩
theorem Near.put {D D' : DiskS} {n : Nat} (h : Near D n D') {ss : List Bytes} (h64 : ∀ s ∈ ss, s.length = 64) (hc : D.cache.length + n + ss.length ≤ 1099511627776) (a : Nat) : Near D (n + ss.length) (D'.put a ss).2 := by
  have hh := h.cache
  obtain ⟨h1, h2, h3⟩ := DiskS.put_spec ss D' a h.ok h64 (by omega)
  exact ⟨h1, by rw [h2]; exact h.size, by omega⟩
theorem Near.write {D D' : DiskS} {n : Nat} (h : Near D n D') {s : Bytes} (hs : s.length = 64) (hc : D.cache.length + n + 1 ≤ 1099511627776) (a : Int) : Near D (n + 1) (D'.write a s).2 := by
  have hh := h.cache
  have := DiskS.write_cache D' a s
  exact ⟨h.ok.write (by omega) a hs, by rw [DiskS.write_kept_len]; exact h.size, by omega⟩

theorem LogS.keep_near (L : LogS) {D : DiskS} (h : D.Ok) {ss : List Bytes} (h64 : ∀ s ∈ ss, s.length = 64) (hn : 1 ≤ ss.length) (hc : D.cache.length + ss.length ≤ 1099511627776) : Near D ss.length (L.keep D ss).2 := by
  unfold LogS.keep
  have t1 : (ss.take 1).length = 1 := by simp; omega
  have step : ∀ D', Near D (ss.length - 1) D' → Near D ss.length (andThen (D'.put (L.base D' L.pos) (ss.take 1)) DiskS.flush).2 := by
    intro D' h'
    refine andThen_spec (p := fun D' => Near D ss.length D') ?_ (fun D' h => h.flush)
    have := h'.put (ss := ss.take 1) (fun s hs => h64 s (List.mem_of_mem_take hs)) (by omega) (L.base D' L.pos)
    exact this.mono (by omega)
  have first : Near D (ss.length - 1) (if 1 < ss.length then andThen (D.put (L.base D (L.pos + 1)) ss.tail) DiskS.flush else (0, D)).2 := by
    split
    · refine andThen_spec (p := fun D' => Near D (ss.length - 1) D') ?_ (fun D' h => h.flush)
      have := (Near.refl h).put (ss := ss.tail) (fun s hs => h64 s (List.mem_of_mem_tail hs)) (by simp; omega) (L.base D (L.pos + 1))
      rw [List.length_tail] at this
      exact this.mono (by omega)
    · exact (Near.refl h).mono (by omega)
  generalize (if 1 < ss.length then andThen (D.put (L.base D (L.pos + 1)) ss.tail) DiskS.flush else (0, D)) = x at *
  unfold andThen
  split
  · exact step _ first
  · exact first.mono (by omega)

theorem Near.hf {D D' : DiskS} {n : Nat} (h : Near D n D') : D'.hf = D.hf := hf_eq h.size

theorem LogS.append_ok {L : LogS} {D : DiskS} (ok : L.Ok D) (hc : D.cache.length + 5000 ≤ 1099511627776) (b : Bytes) :
    (L.append D b).2.1.Ok (L.append D b).2.2 ∧ Near D 66 (L.append D b).2.2 := by
  unfold LogS.append
  split
  · exact ⟨ok, (Near.refl ok.disk).mono (by omega)⟩
  · split
    · exact ⟨ok, (Near.refl ok.disk).mono (by omega)⟩
    · split
      · exact ⟨ok, (Near.refl ok.disk).mono (by omega)⟩
      · rename_i _ h4 h5
        have hs := sectors_le (show b.length ≤ 4096 by omega)
        have hcl := cutOf_len L.list.length L.epoch b
        have hk := L.keep_near ok.disk (cutOf_all L.list.length L.epoch b) (by omega) (by omega)
        have hk' := hk.mono (show (cutOf L.list.length L.epoch b).length ≤ 66 by omega)
        have hlist := ok.list
        have hpos := ok.pos
        split
        · exact ⟨⟨ok.half, by rw [hk.hf]; dsimp only; omega, ok.epoch, ok.top, by simp only [List.length_append, List.length_singleton]; omega, hk.ok, by rw [hk.size]; exact ok.size⟩, hk'⟩
        · exact ⟨⟨ok.half, by rw [hk.hf]; exact hpos, ok.epoch, ok.top, ok.list, hk.ok, by rw [hk.size]; exact ok.size⟩, hk'⟩

theorem rw_near : ∀ (bss : List Bytes) (L : LogS) (D0 D : DiskS) (n : Nat), Near D0 n D → (∀ b ∈ bss, b.length ≤ 4096) → L.half ≤ 1 → L.list.length ≤ L.pos → L.pos + total bss ≤ D0.hf → D0.cache.length + n + total bss ≤ 1099511627776 →
    Near D0 (n + total bss) (rw_ L D bss).2.2 ∧ (rw_ L D bss).2.1.half = L.half ∧ (rw_ L D bss).2.1.epoch = L.epoch ∧ (rw_ L D bss).2.1.top = L.top ∧ (rw_ L D bss).2.1.pos ≤ D0.hf ∧ (rw_ L D bss).2.1.list.length ≤ (rw_ L D bss).2.1.pos := by
  intro bss
  induction bss with
  | nil => intro L D0 D n h _ _ hl hp _; exact ⟨h, rfl, rfl, rfl, by simpa [total, rw_] using hp, hl⟩
  | cons b r ih =>
    intro L D0 D n h h4 hh hl hp hc
    simp only [total] at hp hc
    have hs := sectors_le (h4 b (.head _))
    have hcl := cutOf_len L.list.length L.epoch b
    have hput := h.put (cutOf_all L.list.length L.epoch b) (by omega) (L.base D L.pos)
    simp only [rw_]
    split
    · obtain ⟨h1, h2, h3, h5, h6, h7⟩ := ih { L with pos := L.pos + sectorsOf b.length, list := L.list ++ [b] } D0 _ _ hput (fun x hx => h4 x (.tail _ hx)) hh (by simp only [List.length_append, List.length_singleton]; omega) (by dsimp only; omega) (by omega)
      exact ⟨h1.mono (by simp only [total]; omega), h2, h3, h5, h6, h7⟩
    · exact ⟨hput.mono (by simp only [total]; omega), rfl, rfl, rfl, by dsimp only; omega, hl⟩

theorem LogS.rewrite_ok {L : LogS} {D : DiskS} (ok : L.Ok D) (ht : L.top ≤ 4294967200) (hc : D.cache.length + 5000 ≤ 1099511627776) (bss : List Bytes) :
    (L.rewrite D bss).2.1.Ok (L.rewrite D bss).2.2 ∧ Near D 2048 (L.rewrite D bss).2.2 ∧ (L.rewrite D bss).2.1.top ≤ L.top + 1 := by
  have hhf := hf_le ok.disk
  unfold LogS.rewrite
  split
  · exact ⟨ok, (Near.refl ok.disk).mono (by omega), by dsimp only; omega⟩
  · split
    · exact ⟨ok, (Near.refl ok.disk).mono (by omega), by dsimp only; omega⟩
    · split
      · exact ⟨ok, (Near.refl ok.disk).mono (by omega), by dsimp only; omega⟩
      · rename_i _ h4 h5
        have h4' : ∀ b ∈ bss, b.length ≤ 4096 := fun b hb => by
          rcases Nat.lt_or_ge 4096 b.length with x | x
          · exact absurd ⟨b, hb, x⟩ h4
          · exact x
        obtain ⟨h1, h2, h3, h6, h7, h8⟩ := rw_near bss L.anew D D 0 (Near.refl ok.disk) h4' (by simp only [LogS.anew]; omega) (by simp [LogS.anew]) (by simp only [LogS.anew]; omega) (by omega)
        rw [Nat.zero_add] at h1
        unfold endRw
        generalize rw_ L.anew D bss = x at *
        have ha : L.anew.half ≤ 1 ∧ L.anew.epoch = L.top + 1 ∧ L.anew.top = L.top + 1 := ⟨by simp only [LogS.anew]; omega, rfl, rfl⟩
        split
        · have hf : Near D 2048 (finish x.2.1 x.2.2).2 := by
            have h9 := h1.flush
            have h10 := (h9.write (headSect_len x.2.1.epoch) (by omega) (x.2.1.half : Int)).mono (show total bss + 1 ≤ 2048 by omega)
            unfold finish andThen
            split
            · dsimp only
              split
              · exact h10.flush
              · exact h10
            · exact h9.mono (by omega)
          exact ⟨⟨by dsimp only; omega, by rw [hf.hf]; exact h7, by dsimp only; omega, by dsimp only; omega, h8, hf.ok, by rw [hf.size]; exact ok.size⟩, hf, by dsimp only; omega⟩
        · have hf := h1.mono (show total bss ≤ 2048 by omega)
          exact ⟨⟨by omega, by rw [hf.hf]; exact h7, by omega, by omega, h8, hf.ok, by rw [hf.size]; exact ok.size⟩, hf, by omega⟩
end Go.Proofs.YtnfomoeicgdkkaaGreatDoor

/- What becomes of a disk on which is written, whether the power stays or goes. -/
set_option linter.unusedSimpArgs false
set_option linter.unusedVariables false
namespace Go.Proofs.YtnfomoeicgdkkaaGreatDoor

theorem andThen_ok {x : Int × DiskS} {f : DiskS → Int × DiskS} (h : x.1 = 0) : andThen x f = f x.2 := by unfold andThen; rw [if_pos h]
theorem andThen_bad {x : Int × DiskS} {f : DiskS → Int × DiskS} (h : x.1 ≠ 0) : andThen x f = x := by unfold andThen; rw [if_neg h]

/-- each place as it was, or as one of the writes says -/
def Mix (K : List Bytes) (C : List (Nat × Bytes)) (K' : List Bytes) : Prop := K'.length = K.length ∧ ∀ a, K'[a]? = K[a]? ∨ ∃ s, (a, s) ∈ C ∧ K'[a]? = some s

theorem Mix.mono {K K' : List Bytes} {C C' : List (Nat × Bytes)} (h : Mix K C K') (e : ∀ x ∈ C, x ∈ C') : Mix K C' K' :=
  ⟨h.1, fun a => (h.2 a).imp id fun ⟨s, m, x⟩ => ⟨s, e _ m, x⟩⟩
theorem Mix.refl (K : List Bytes) (C : List (Nat × Bytes)) : Mix K C K := ⟨rfl, fun _ => .inl rfl⟩

namespace DiskS
theorem keepSome_mix (keeps : Nat) : ∀ (C : List (Nat × Bytes)) (i : Nat) (K : List Bytes), Mix K C (keepSome keeps i C K) := by
  intro C
  induction C with
  | nil => intro i K; exact Mix.refl K []
  | cons x C ih =>
    intro i K
    obtain ⟨a, s⟩ := x
    simp only [keepSome]
    have h := ih (i + 1) (if keeps.testBit (i % 64) = true then K.set a s else K)
    refine ⟨by rw [keepSome_len]; split <;> simp, fun b => ?_⟩
    rcases h.2 b with h1 | ⟨t, m, h1⟩
    · rw [h1]
      split
      · rw [List.getElem?_set]
        split
        · rename_i _ hab
          subst hab
          split
          · exact .inr ⟨s, .head _, rfl⟩
          · rename_i hlt
            left
            rw [List.getElem?_eq_none (by omega)]
        · exact .inl rfl
      · exact .inl rfl
    · exact .inr ⟨t, .tail _ m, h1⟩

/-- the power stays, or goes with these writes under way -/
def Out (D : DiskS) (K : List Bytes) (C C' : List (Nat × Bytes)) (x : Int × DiskS) : Prop :=
  (x.1 = 0 ∧ x.2.down = false ∧ x.2.kept = K ∧ x.2.cache = C' ∧ (D.fate ≤ 0 → x.2.fate ≤ 0)) ∨ (x.1 = 3 ∧ 0 < D.fate ∧ x.2.down = true ∧ x.2.cache = [] ∧ x.2.fate = -1 ∧ Mix D.kept C x.2.kept)

theorem step_out (D : DiskS) : (D.step.1 = true ∧ D.step.2.down = D.down ∧ D.step.2.kept = D.kept ∧ D.step.2.cache = D.cache ∧ (D.fate ≤ 0 → D.step.2.fate ≤ 0)) ∨
    (D.step.1 = false ∧ 0 < D.fate ∧ D.step.2.down = true ∧ D.step.2.cache = [] ∧ D.step.2.fate = -1 ∧ Mix D.kept D.cache D.step.2.kept) := by
  unfold DiskS.step
  split
  · split
    · exact .inr ⟨rfl, by assumption, rfl, rfl, rfl, keepSome_mix _ _ _ _⟩
    · exact .inl ⟨rfl, rfl, rfl, rfl, fun h => by dsimp only; omega⟩
  · exact .inl ⟨rfl, rfl, rfl, rfl, fun h => h⟩

theorem write_out {D : DiskS} (hd : D.down = false) {a : Nat} (ha : a < D.kept.length) (s : Bytes) : Out D D.kept (D.cache ++ [(a, s)]) (D.cache ++ [(a, s)]) (D.write a s) := by
  unfold DiskS.write
  rw [if_neg (by simp [hd]), if_neg (by omega)]
  have h := step_out { D with cache := D.cache ++ [((a : Int).toNat, s)] }
  simp only [Int.toNat_natCast] at h ⊢
  rcases h with ⟨h1, h2, h3, h4, h5⟩ | ⟨h1, h2, h3, h4, h5, h6⟩
  · exact .inl ⟨by simp [h1], by simpa [hd] using h2, h3, h4, h5⟩
  · exact .inr ⟨by simp [h1], h2, h3, h4, h5, h6⟩

theorem flush_out {D : DiskS} (hd : D.down = false) : Out D (keepAll D.cache D.kept) D.cache [] D.flush := by
  unfold DiskS.flush
  rw [if_neg (by simp [hd])]
  have h := step_out D
  dsimp only
  generalize D.step = x at *
  rcases h with ⟨h1, h2, h3, h4, h5⟩ | ⟨h1, h2, h3, h4, h5, h6⟩
  · rw [if_pos h1]
    exact .inl ⟨rfl, by dsimp only; rw [h2, hd], by dsimp only; rw [h3, h4], rfl, h5⟩
  · rw [if_neg (by simp [h1])]
    exact .inr ⟨rfl, h2, h3, h4, h5, h6⟩

/-- writes one behind the other, from a place on -/
def puts (a : Nat) : List Bytes → List (Nat × Bytes)
  | [] => []
  | s :: r => (a, s) :: puts (a + 1) r

theorem put_out : ∀ (ss : List Bytes) {D : DiskS} (_ : D.down = false) (a : Nat), a + ss.length ≤ D.kept.length → Out D D.kept (D.cache ++ puts a ss) (D.cache ++ puts a ss) (D.put a ss) := by
  intro ss
  induction ss with
  | nil => intro D h a _; exact .inl ⟨rfl, h, rfl, by simp [put, puts], fun h => h⟩
  | cons s r ih =>
    intro D h a ha
    simp only [List.length_cons] at ha
    simp only [put, puts]
    have hw := write_out h (show a < D.kept.length by omega) s
    generalize D.write a s = x at *
    rcases hw with ⟨h1, h2, h3, h4, h5⟩ | ⟨h1, h2, h3, h4, h5, h6⟩
    · rw [if_pos h1]
      have := ih h2 (a + 1) (by rw [h3]; omega)
      rw [h3, h4, List.append_assoc, List.singleton_append] at this
      rcases this with ⟨g1, g2, g3, g4, g5⟩ | ⟨g1, g2, g3, g4, g5, g6⟩
      · exact .inl ⟨g1, g2, g3, g4, fun h => g5 (h5 h)⟩
      · refine .inr ⟨g1, ?_, g3, g4, g5, by rw [h3] at g6; exact g6⟩
        rcases Int.lt_or_le 0 D.fate with q | q
        · exact q
        · have := h5 q; omega
    · rw [if_neg (by omega)]
      refine .inr ⟨h1, h2, h3, h4, h5, h6.mono fun y hy => ?_⟩
      rcases List.mem_append.1 hy with hy | hy
      · exact List.mem_append_left _ hy
      · rw [List.mem_singleton] at hy; subst hy; exact List.mem_append_right _ (.head _)

theorem putFlush_out {D : DiskS} (hd : D.down = false) (hc : D.cache = []) (ss : List Bytes) (a : Nat) (ha : a + ss.length ≤ D.kept.length) :
    Out D (keepAll (puts a ss) D.kept) (puts a ss) [] (andThen (D.put a ss) flush) := by
  have h := put_out ss hd a ha
  rw [hc, List.nil_append] at h
  unfold andThen
  generalize D.put a ss = x at *
  rcases h with ⟨h1, h2, h3, h4, h5⟩ | ⟨h1, h2, h3, h4, h5, h6⟩
  · rw [if_pos h1]
    have := flush_out h2
    rw [h3, h4] at this
    rcases this with ⟨g1, g2, g3, g4, g5⟩ | ⟨g1, g2, g3, g4, g5, g6⟩
    · exact .inl ⟨g1, g2, g3, g4, fun h => g5 (h5 h)⟩
    · refine .inr ⟨g1, ?_, g3, g4, g5, by rw [h3] at g6; exact g6⟩
      rcases Int.lt_or_le 0 D.fate with q | q
      · exact q
      · have := h5 q; omega
  · rw [if_neg (by omega)]
    exact .inr ⟨h1, h2, h3, h4, h5, h6⟩
end DiskS

/-- what becomes of a record that is kept -/
theorem LogS.keep_out (L : LogS) {D : DiskS} (hd : D.down = false) (hc : D.cache = []) {ss : List Bytes} (hn : 1 ≤ ss.length) (hb : L.base D L.pos + ss.length ≤ D.kept.length) :
    ((L.keep D ss).1 = 0 ∧ (L.keep D ss).2.down = false ∧ (L.keep D ss).2.cache = [] ∧ (D.fate ≤ 0 → (L.keep D ss).2.fate ≤ 0) ∧
      (L.keep D ss).2.kept = DiskS.keepAll (DiskS.puts (L.base D L.pos) (ss.take 1)) (DiskS.keepAll (DiskS.puts (L.base D L.pos + 1) ss.tail) D.kept)) ∨
    ((L.keep D ss).1 = 3 ∧ 0 < D.fate ∧ (L.keep D ss).2.down = true ∧ (L.keep D ss).2.cache = [] ∧ (L.keep D ss).2.fate = -1 ∧
      (Mix D.kept (DiskS.puts (L.base D L.pos + 1) ss.tail) (L.keep D ss).2.kept ∨
       Mix (DiskS.keepAll (DiskS.puts (L.base D L.pos + 1) ss.tail) D.kept) (DiskS.puts (L.base D L.pos) (ss.take 1)) (L.keep D ss).2.kept)) := by
  have t1 : (ss.take 1).length = 1 := by simp; omega
  have hb1 : L.base D (L.pos + 1) = L.base D L.pos + 1 := by unfold LogS.base; omega
  have hb2 : ∀ (D' : DiskS), D'.kept.length = D.kept.length → L.base D' L.pos = L.base D L.pos := fun D' e => by unfold LogS.base; rw [hf_eq e]
  have first : DiskS.Out D (DiskS.keepAll (DiskS.puts (L.base D L.pos + 1) ss.tail) D.kept) (DiskS.puts (L.base D L.pos + 1) ss.tail) [] (if 1 < ss.length then andThen (D.put (L.base D (L.pos + 1)) ss.tail) DiskS.flush else (0, D)) := by
    split
    · rw [hb1]
      exact DiskS.putFlush_out hd hc ss.tail _ (by rw [List.length_tail]; omega)
    · have : ss.tail = [] := List.length_eq_zero_iff.1 (by rw [List.length_tail]; omega)
      rw [this]
      exact .inl ⟨rfl, hd, rfl, hc, fun h => h⟩
  unfold LogS.keep
  generalize (if 1 < ss.length then andThen (D.put (L.base D (L.pos + 1)) ss.tail) DiskS.flush else (0, D)) = x at *
  have hk : (DiskS.keepAll (DiskS.puts (L.base D L.pos + 1) ss.tail) D.kept).length = D.kept.length := DiskS.keepAll_len _ _
  rcases first with ⟨h1, h2, h3, h4, h5⟩ | ⟨h1, h2, h3, h4, h5, h6⟩
  · have e : andThen x (fun D => andThen (D.put (L.base D L.pos) (ss.take 1)) DiskS.flush) = andThen (x.2.put (L.base D L.pos) (ss.take 1)) DiskS.flush := by
      rw [andThen_ok h1, hb2 x.2 (by rw [h3]; exact hk)]
    rw [e]
    have := DiskS.putFlush_out h2 h4 (ss.take 1) (L.base D L.pos) (by rw [h3, hk]; omega)
    rw [h3] at this
    rcases this with ⟨g1, g2, g3, g4, g5⟩ | ⟨g1, g2, g3, g4, g5, g6⟩
    · exact .inl ⟨g1, g2, g4, fun h => g5 (h5 h), g3⟩
    · refine .inr ⟨g1, ?_, g3, g4, g5, .inr (by rw [h3] at g6; exact g6)⟩
      rcases Int.lt_or_le 0 D.fate with q | q
      · exact q
      · have := h5 q; omega
  · have e : andThen x (fun D => andThen (D.put (L.base D L.pos) (ss.take 1)) DiskS.flush) = x := by
      exact andThen_bad (by omega)
    rw [e]
    exact .inr ⟨h1, h2, h3, h4, h5, .inl h6⟩
end Go.Proofs.YtnfomoeicgdkkaaGreatDoor

/- Records that lie on a disk are found. -/
set_option linter.unusedSimpArgs false
set_option linter.unusedVariables false
namespace Go.Proofs.YtnfomoeicgdkkaaGreatDoor

theorem rd_le4 {n : Nat} (h : n < 4294967296) {most : Int} (hm : (n : Int) ≤ most) (r : Bytes) (bad : Bool) : Rd.num most ⟨le4 n ++ r, bad⟩ = ((n : Int), ⟨r, bad⟩) := by
  simp only [le4, List.cons_append, List.nil_append, Rd.num, val4_le4 n h]
  rw [if_neg (by omega)]

/-- the epoch that a record's first sector names -/
def ep (s : Bytes) : Nat := match (s.drop 9).take 4 with
  | [a, b, c, d] => val4 a b c d
  | _ => 0

theorem four {s : Bytes} {n : Nat} (h : n + 4 ≤ s.length) : ∃ a b c d, (s.drop n).take 4 = [a, b, c, d] ∧ s.drop n = a :: b :: c :: d :: s.drop (n + 4) := by
  have h1 : n < s.length := by omega
  refine ⟨s[n], s[n + 1], s[n + 2], s[n + 3], ?_, ?_⟩
  · rw [List.drop_eq_getElem_cons h1, List.drop_eq_getElem_cons (show n + 1 < s.length by omega), List.drop_eq_getElem_cons (show n + 1 + 1 < s.length by omega), List.drop_eq_getElem_cons (show n + 1 + 1 + 1 < s.length by omega)]; rfl
  · rw [List.drop_eq_getElem_cons h1, List.drop_eq_getElem_cons (show n + 1 < s.length by omega), List.drop_eq_getElem_cons (show n + 1 + 1 < s.length by omega), List.drop_eq_getElem_cons (show n + 1 + 1 + 1 < s.length by omega)]

/-- reads that went well -/
theorem num_good {most : Int} {R : Rd} (h : (R.num most).2.bad = false) : ∃ a b c d r, R.b = a :: b :: c :: d :: r ∧ R.bad = false ∧ R.num most = ((val4 a b c d : Int), ⟨r, false⟩) := by
  obtain ⟨bs, bad⟩ := R
  unfold Rd.num at h ⊢
  split at h
  · rename_i x a b c d r bad' heq
    cases heq
    split at h
    · cases h
    · rename_i hm
      dsimp only at h
      subst h
      refine ⟨a, b, c, d, r, rfl, rfl, ?_⟩
      rw [if_neg hm]
  · cases h

/-- a sector that begins no record of an epoch -/
def Stale (e : Nat) (s : Bytes) : Prop := ¬ (s[0]? = some 2 ∧ ep s = e)

theorem next_stop {L : LogS} {D : DiskS} (h : L.pos < D.hf → Stale L.epoch (D.at_ (L.base D L.pos))) : L.next D = none := by
  unfold LogS.next
  by_cases h1 : D.hf ≤ L.pos
  · rw [if_pos h1]
  have hs := h (by omega)
  rw [if_neg h1]
  dsimp only
  generalize D.at_ (L.base D L.pos) = s at *
  by_cases h2 : s[0]? = some 2
  · rw [if_pos h2]
    by_cases h3 : ((((((headOf s).num 4096).2.num 2147483648).2.num 2147483648).2.num 4294967295).2).bad = true
    · rw [if_pos h3]
    · have h3' : ((((((headOf s).num 4096).2.num 2147483648).2.num 2147483648).2.num 4294967295).2).bad = false := by simpa using h3
      obtain ⟨_, _, _, _, _, _, g3, _⟩ := num_good h3'
      obtain ⟨a3, b3, c3, d3, r3, e3, g2, v3⟩ := num_good g3
      obtain ⟨a2, b2, c2, d2, r2, e2, g1, v2⟩ := num_good g2
      obtain ⟨a1, b1, c1, d1, r1, e1, _, v1⟩ := num_good g1
      rw [v1] at e2
      rw [v2] at e3
      dsimp only at e2 e3
      have hep : ep s = val4 a3 b3 c3 d3 := by
        have : (s.drop 1).take 16 = a1 :: b1 :: c1 :: d1 :: a2 :: b2 :: c2 :: d2 :: a3 :: b3 :: c3 :: d3 :: r3 := by rw [← e3, ← e2, ← e1]; rfl
        have h8 := congrArg (fun l => (l.drop 8).take 4) this
        simp only [List.drop_take, List.drop_drop, List.take_take] at h8
        unfold ep
        rw [show (s.drop 9).take 4 = [a3, b3, c3, d3] by simpa using h8]
      have hx3 : ((((headOf s).num 4096).2.num 2147483648).2.num 2147483648).1 = (ep s : Int) := by rw [v3, hep]
      rw [if_neg h3, hx3, if_neg (show ¬ ((ep s : Int) = (L.epoch : Int)) from fun e => hs ⟨h2, by omega⟩)]
      split <;> rfl
  · rw [if_neg h2]

/-- a record's bytes with what fills its last sector -/
def padded (all : Bytes) (k : Nat) : Bytes := all ++ List.replicate (k * 63 - all.length) 0

theorem sect_tail {all : Bytes} {k i : Nat} (hi : i < k) (hl : all.length ≤ k * 63) : (sectOf all i).drop 1 = ((padded all k).drop (i * 63)).take 63 := by
  unfold sectOf padded
  simp only [List.drop_succ_cons, List.drop_zero]
  have hk : i * 63 + 63 ≤ k * 63 := by have := Nat.mul_le_mul_right 63 (show i + 1 ≤ k by omega); omega
  rw [List.drop_append, List.take_append]
  congr 1
  rw [List.drop_replicate, List.take_replicate]
  congr 1
  simp only [List.length_take, List.length_drop]
  omega

theorem gather_ok {D : DiskS} {base : Nat} {all : Bytes} {k : Nat} (hl : all.length ≤ k * 63) (hs : ∀ j, j < k → D.at_ (base + j) = sectOf all j) : ∀ (n i : Nat), 1 ≤ i → i + n = k →
    gather D base n i (((padded all k).take (i * 63)).drop 16) = some ((padded all k).drop 16) := by
  have hp : (padded all k).length = k * 63 := by unfold padded; rw [List.length_append, List.length_replicate]; omega
  intro n
  induction n with
  | zero =>
    intro i _ hi
    have : i = k := by omega
    subst this
    simp only [gather]
    rw [List.take_of_length_le (by omega)]
  | succ n ih =>
    intro i h1 hi
    simp only [gather]
    rw [hs i (by omega)]
    have h3 : (sectOf all i)[0]? = some 3 := by unfold sectOf; rw [if_neg (by omega)]; rfl
    rw [if_pos h3, sect_tail (by omega) hl]
    have := ih (i + 1) (by omega) (by omega)
    rw [← this]
    congr 1
    rw [Nat.add_mul, Nat.one_mul, List.take_add, List.drop_append_of_le_length]
    rw [List.length_take, hp]
    have : (i + 1) * 63 ≤ k * 63 := Nat.mul_le_mul_right 63 (by omega)
    omega

theorem next_hit {L : LogS} {D : DiskS} {b : Bytes} (hb : b.length ≤ 4096) (hp : L.pos + sectorsOf b.length ≤ D.hf) (hl : L.list.length ≤ 2147483648) (he : L.epoch ≤ 2147483648)
    (hs : ∀ j, j < sectorsOf b.length → D.at_ (L.base D L.pos + j) = sectOf (hdrOf L.list.length L.epoch b) j) : L.next D = some (b, sectorsOf b.length) := by
  have hk := sectors_le hb
  have hal := hdrOf_len L.list.length L.epoch b
  have hs0 := hs 0 (by omega)
  rw [Nat.add_zero] at hs0
  unfold LogS.next
  rw [if_neg (by omega)]
  dsimp only
  have hcr := crcOf_lt ((le4 L.list.length ++ le4 L.epoch) ++ b)
  have hhead : headOf (D.at_ (L.base D L.pos)) = ⟨le4 b.length ++ (le4 L.list.length ++ (le4 L.epoch ++ (le4 (crcOf ((le4 L.list.length ++ le4 L.epoch) ++ b)) ++ []))), false⟩ := by
    rw [hs0]
    unfold headOf sectOf
    simp only [Nat.zero_mul, List.drop_zero, List.drop_succ_cons]
    rw [Rd.mk.injEq]
    refine ⟨?_, rfl⟩
    have h16 : 16 ≤ ((hdrOf L.list.length L.epoch b).take 63).length := by rw [List.length_take, hal]; omega
    rw [List.take_append_of_le_length h16, List.take_take]
    unfold hdrOf
    have : ∀ x y z w r : Bytes, x.length = 4 → y.length = 4 → z.length = 4 → w.length = 4 → List.take (min 16 63) (x ++ (y ++ (z ++ (w ++ r)))) = x ++ (y ++ (z ++ (w ++ []))) := by
      intro x y z w r h1 h2 h3 h4
      rw [show min 16 63 = 16 from rfl, List.take_append, List.take_append, List.take_append, List.take_append, h1, h2, h3, h4]
      rw [List.take_of_length_le (by omega), List.take_of_length_le (by omega), List.take_of_length_le (by omega), List.take_of_length_le (by omega)]
      simp
    exact this _ _ _ _ _ (le4_len _) (le4_len _) (le4_len _) (le4_len _)
  rw [hhead, rd_le4 (by omega) (by omega)]
  dsimp only
  rw [rd_le4 (by omega) (by omega)]
  dsimp only
  rw [rd_le4 (by omega) (by omega)]
  dsimp only
  rw [rd_le4 hcr (by omega)]
  dsimp only
  simp only [Int.toNat_natCast]
  have hm : (D.at_ (L.base D L.pos))[0]? = some 2 := by rw [hs0]; unfold sectOf; rw [if_pos rfl]; rfl
  rw [if_pos hm, if_neg (by decide), if_pos trivial, if_pos trivial, if_neg (by omega)]
  have hle : (hdrOf L.list.length L.epoch b).length ≤ sectorsOf b.length * 63 := by rw [hal]; unfold sectorsOf; omega
  have hd17 : (D.at_ (L.base D L.pos)).drop 17 = ((padded (hdrOf L.list.length L.epoch b) (sectorsOf b.length)).take (1 * 63)).drop 16 := by
    have := sect_tail (i := 0) (k := sectorsOf b.length) (by omega) hle
    rw [Nat.zero_mul, List.drop_zero] at this
    rw [hs0, Nat.one_mul, ← this, List.drop_drop]
  rw [hd17, gather_ok hle hs (sectorsOf b.length - 1) 1 (Nat.le_refl _) (by omega)]
  dsimp only
  have hb2 : ((padded (hdrOf L.list.length L.epoch b) (sectorsOf b.length)).drop 16).take b.length = b := by
    unfold padded hdrOf
    have : ∀ x y z w r q : Bytes, x.length = 4 → y.length = 4 → z.length = 4 → w.length = 4 → (((x ++ (y ++ (z ++ (w ++ r)))) ++ q).drop 16).take r.length = r := by
      intro x y z w r q h1 h2 h3 h4
      rw [show (x ++ (y ++ (z ++ (w ++ r)))) ++ q = (x ++ y ++ z ++ w) ++ (r ++ q) by simp, List.drop_append, List.drop_eq_nil_of_le (by simp; omega)]
      rw [show 16 - (x ++ y ++ z ++ w).length = 0 by simp; omega]
      simp
    exact this _ _ _ _ _ _ (le4_len _) (le4_len _) (le4_len _) (le4_len _)
  rw [hb2, if_pos rfl]
end Go.Proofs.YtnfomoeicgdkkaaGreatDoor

/- A disk that bears a log, and what is opened. -/
set_option linter.unusedSimpArgs false
set_option linter.unusedVariables false
namespace Go.Proofs.YtnfomoeicgdkkaaGreatDoor

/-- records lie one behind the other -/
def Lies (f : Nat → Bytes) (B e : Nat) : Nat → Nat → List Bytes → Prop
  | _, _, [] => True
  | p, q, b :: r => (∀ j, j < sectorsOf b.length → f (B + p + j) = sectOf (hdrOf q e b) j) ∧ b.length ≤ 4096 ∧ Lies f B e (p + sectorsOf b.length) (q + 1) r

structure Rep (f : Nat → Bytes) (n e h : Nat) (list : List Bytes) (T : Nat) : Prop where
  size : 6 ≤ n ∧ n ≤ 4096
  half : h ≤ 1
  epoch : 1 ≤ e ∧ e ≤ T
  top : T ≤ 2147483648
  lies : Lies f (2 + h * ((n - 2) / 2)) e 0 0 list
  room : total list ≤ (n - 2) / 2
  stale : ∀ k, total list ≤ k → k < (n - 2) / 2 → Stale e (f (2 + h * ((n - 2) / 2) + k))
  head : f h = headSect e
  other : (goodOf (f (1 - h))).2 = true → (goodOf (f (1 - h))).1 < e
  tops : ∀ a, 2 ≤ a → a < n → (f a)[0]? = some 2 → ep (f a) ≤ T
  len : ∀ a, a < n → (f a).length = 64

theorem len_le_total : ∀ (l : List Bytes), l.length ≤ total l := by
  intro l
  induction l with
  | nil => exact Nat.le_refl _
  | cons b l ih =>
    simp only [List.length_cons, total]
    have : 1 ≤ sectorsOf b.length := by unfold sectorsOf; omega
    omega

theorem scan_lies (D : DiskS) : ∀ (rs : List Bytes) (L : LogS) (fuel : Nat), Lies D.at_ (2 + L.half * D.hf) L.epoch L.pos L.list.length rs → L.pos + total rs ≤ D.hf → L.list.length + rs.length ≤ 2147483648 → L.epoch ≤ 2147483648 →
    (L.pos + total rs < D.hf → Stale L.epoch (D.at_ (2 + L.half * D.hf + (L.pos + total rs)))) → rs.length < fuel → scanN fuel L D = { L with pos := L.pos + total rs, list := L.list ++ rs } := by
  intro rs
  induction rs with
  | nil =>
    intro L fuel _ hp _ _ hst hf
    obtain ⟨n, rfl⟩ : ∃ n, fuel = n + 1 := ⟨fuel - 1, by simp at hf; omega⟩
    have : L.next D = none := next_stop (fun h => by simpa [LogS.base, total] using hst (by simpa [total] using h))
    simp only [scanN, this, total, Nat.add_zero, List.append_nil]
  | cons b rs ih =>
    intro L fuel hl hp hq he hst hf
    obtain ⟨n, rfl⟩ : ∃ n, fuel = n + 1 := ⟨fuel - 1, by simp at hf; omega⟩
    obtain ⟨h1, h2, h3⟩ := hl
    simp only [total, List.length_cons] at hp hst hf hq
    have hn := next_hit (L := L) (D := D) h2 (by omega) (by omega) he (fun j hj => h1 j hj)
    simp only [scanN, hn]
    have := ih { L with pos := L.pos + sectorsOf b.length, list := L.list ++ [b] } n (by simpa using h3) (by dsimp only; omega) (by simp only [List.length_append, List.length_singleton]; omega) he
      (fun h => by dsimp only at h ⊢; rw [Nat.add_assoc L.pos]; exact hst (by omega)) (by omega)
    rw [this]
    simp only [total, Nat.add_assoc, List.append_assoc, List.singleton_append]

theorem good_head {e : Nat} (he : e ≤ 2147483648) : goodOf (headSect e) = ((e : Int), true) := by
  have hne : headSect e ≠ List.replicate 64 0 := by
    intro h
    have := congrArg (fun l => l[0]?) h
    simp [headSect] at this
  have h8 : ((headSect e).drop 1).take 8 = le4 e ++ (le4 (crcOf (1 :: le4 e)) ++ []) := rfl
  have h5 : (headSect e).take 5 = 1 :: le4 e := rfl
  unfold goodOf
  rw [if_neg hne, h8, h5, rd_le4 (by omega) (by omega)]
  dsimp only
  rw [rd_le4 (crcOf_lt _) (by have := crcOf_lt (1 :: le4 e); omega)]
  simp [headSect]

theorem lookStep_first {s : Bytes} (hs : s.length = 64) (hm : s[0]? = some 2) {t T : Nat} (hT : T ≤ 2147483648) (h : ep s ≤ T) : lookStep s t = max t (ep s) := by
  obtain ⟨a, b, c, d, h4, _⟩ := four (s := s) (n := 9) (by omega)
  have he : ep s = val4 a b c d := by unfold ep; rw [h4]
  unfold lookStep
  rw [if_pos hm, h4]
  simp only [Rd.num]
  rw [if_neg (by omega), he]
  simp

theorem lookN_tops (D : DiskS) {T : Nat} (hT : T ≤ 2147483648) : ∀ (n a t : Nat), t ≤ T → (∀ b, a ≤ b → b < a + n → (D.at_ b).length = 64 ∧ ((D.at_ b)[0]? = some 2 → ep (D.at_ b) ≤ T)) →
    t ≤ lookN D n a t ∧ lookN D n a t ≤ T ∧ ∀ b, a ≤ b → b < a + n → (D.at_ b)[0]? = some 2 → ep (D.at_ b) ≤ lookN D n a t := by
  intro n
  induction n with
  | zero => intro a t ht _; exact ⟨Nat.le_refl _, ht, fun b h1 h2 => by omega⟩
  | succ n ih =>
    intro a t ht h
    simp only [lookN]
    have ha := h a (Nat.le_refl _) (by omega)
    have hst : t ≤ lookStep (D.at_ a) t ∧ lookStep (D.at_ a) t ≤ T ∧ ((D.at_ a)[0]? = some 2 → ep (D.at_ a) ≤ lookStep (D.at_ a) t) := by
      by_cases hm : (D.at_ a)[0]? = some 2
      · rw [lookStep_first ha.1 hm hT (ha.2 hm)]
        have := ha.2 hm
        exact ⟨by omega, by omega, fun _ => by omega⟩
      · have : lookStep (D.at_ a) t = t := by unfold lookStep; rw [if_neg hm]
        rw [this]
        exact ⟨Nat.le_refl _, ht, fun x => absurd x hm⟩
    obtain ⟨h1, h2, h3⟩ := ih (a + 1) (lookStep (D.at_ a) t) hst.2.1 (fun b g1 g2 => h b (by omega) (by omega))
    refine ⟨by omega, h2, fun b g1 g2 g3 => ?_⟩
    by_cases hb : b = a
    · subst hb
      have := hst.2.2 g3; omega
    · exact h3 b (by omega) (by omega) g3

/-- what is opened -/
theorem open_rep {D : DiskS} {e h T : Nat} {list : List Bytes} (r : Rep D.at_ D.kept.length e h list T) :
    ∃ t, e ≤ t ∧ t ≤ T ∧ (∀ a, 2 ≤ a → a < D.kept.length → (D.at_ a)[0]? = some 2 → ep (D.at_ a) ≤ t) ∧ openS D = (0, some ⟨e, t, h, total list, list, false⟩, D) := by
  have hsz := r.size
  have hee := r.epoch
  have hT := r.top
  have hgh : goodOf (D.at_ h) = ((e : Int), true) := by rw [r.head]; exact good_head (by omega)
  have hhd : headS D = mkL e h := by
    have hs : ∀ L1, (if (goodOf (D.at_ 0)).2 = true ∧ ((0 : Nat) : Int) < (goodOf (D.at_ 0)).1 then mkL (goodOf (D.at_ 0)).1.toNat 0 else mkL 0 0) = L1 →
        headS D = if (goodOf (D.at_ 1)).2 = true ∧ (L1.epoch : Int) < (goodOf (D.at_ 1)).1 then { L1 with epoch := (goodOf (D.at_ 1)).1.toNat, half := 1 } else L1 := by
      intro L1 h; subst h; rfl
    have ho := r.other
    have hr := goodOf_range (D.at_ (1 - h))
    rcases (show h = 0 ∨ h = 1 by have := r.half; omega) with rfl | rfl
    · rw [hs (mkL e 0) (by rw [hgh, if_pos ⟨rfl, by show ((0 : Nat) : Int) < (e : Int); omega⟩]; rfl)]
      rw [if_neg (by rintro ⟨h1, h2⟩; have := ho h1; rw [show (mkL e 0).epoch = e from rfl] at h2; simp only [Nat.sub_zero] at this; omega)]
    · by_cases h0 : (goodOf (D.at_ 0)).2 = true ∧ ((0 : Nat) : Int) < (goodOf (D.at_ 0)).1
      · have hoo := ho h0.1
        rw [hs (mkL (goodOf (D.at_ 0)).1.toNat 0) (by rw [if_pos h0]), hgh]
        rw [if_pos ⟨rfl, by rw [show (mkL (goodOf (D.at_ 0)).1.toNat 0).epoch = (goodOf (D.at_ 0)).1.toNat from rfl]; simp only [Nat.sub_self] at hoo; show _ < (e : Int); omega⟩]
        rfl
      · rw [hs (mkL 0 0) (by rw [if_neg h0]), hgh, if_pos ⟨rfl, by show ((0 : Nat) : Int) < (e : Int); omega⟩]
        rfl
  obtain ⟨t1, t2, t3⟩ := lookN_tops D hT (D.kept.length - 2) 2 e hee.2 (fun b h1 h2 => ⟨r.len b (by omega), r.tops b h1 (by omega)⟩)
  have hlk : lookS D = ⟨e, lookN D (D.kept.length - 2) 2 e, h, 0, [], false⟩ := by unfold lookS; rw [hhd]; rfl
  refine ⟨lookN D (D.kept.length - 2) 2 e, t1, t2, fun a h1 h2 h3 => t3 a h1 (by omega) h3, ?_⟩
  unfold openS
  rw [if_neg (by omega), hhd, if_neg (by show ¬ (e = 0); omega), hlk]
  have hll := len_le_total list
  have hro := r.room
  have hhf : D.hf = (D.kept.length - 2) / 2 := rfl
  rw [scan_lies D list ⟨e, lookN D (D.kept.length - 2) 2 e, h, 0, [], false⟩ (D.hf + 1) r.lies (by dsimp only; omega) (by simp only [List.length_nil]; omega) (by dsimp only; omega)
    (fun hlt => by dsimp only at hlt ⊢; rw [Nat.zero_add]; exact r.stale _ (Nat.le_refl _) (by omega)) (by omega)]
  simp
end Go.Proofs.YtnfomoeicgdkkaaGreatDoor

/- What becomes of a disk that bears a log. -/
set_option linter.unusedSimpArgs false
set_option linter.unusedVariables false
namespace Go.Proofs.YtnfomoeicgdkkaaGreatDoor

def fK (K : List Bytes) (a : Nat) : Bytes := K.getD a []

theorem at_nil {D : DiskS} (h : D.cache = []) : D.at_ = fK D.kept := by
  funext a; unfold DiskS.at_ fK; rw [h]; rfl

theorem Lies.congr {f f' : Nat → Bytes} {B e : Nat} : ∀ {rs : List Bytes} {p q : Nat}, Lies f B e p q rs → (∀ k, p ≤ k → k < p + total rs → f' (B + k) = f (B + k)) → Lies f' B e p q rs := by
  intro rs
  induction rs with
  | nil => intro p q _ _; trivial
  | cons b r ih =>
    intro p q h hf
    obtain ⟨h1, h2, h3⟩ := h
    simp only [total] at hf
    refine ⟨fun j hj => ?_, h2, ih h3 fun k k1 k2 => hf k (by omega) (by omega)⟩
    rw [← h1 j hj, Nat.add_assoc, hf (p + j) (by omega) (by omega)]

theorem Lies.snoc {f : Nat → Bytes} {B e : Nat} {b : Bytes} : ∀ {rs : List Bytes} {p q : Nat}, Lies f B e p q rs → (∀ j, j < sectorsOf b.length → f (B + (p + total rs) + j) = sectOf (hdrOf (q + rs.length) e b) j) → b.length ≤ 4096 → Lies f B e p q (rs ++ [b]) := by
  intro rs
  induction rs with
  | nil => intro p q _ h hb; exact ⟨fun j hj => by simpa [total] using h j hj, hb, trivial⟩
  | cons x r ih =>
    intro p q h hs hb
    obtain ⟨h1, h2, h3⟩ := h
    simp only [total, List.length_cons] at hs
    refine ⟨h1, h2, ih h3 (fun j hj => ?_) hb⟩
    rw [show q + 1 + r.length = q + (r.length + 1) by omega, show p + sectorsOf x.length + total r = p + (sectorsOf x.length + total r) by omega]
    exact hs j hj

theorem sect_more {all : Bytes} {j : Nat} (h : 1 ≤ j) : (sectOf all j)[0]? = some 3 := by unfold sectOf; rw [if_neg (by omega)]; rfl
theorem stale_more {all : Bytes} {j e : Nat} (h : 1 ≤ j) : Stale e (sectOf all j) := by
  rintro ⟨h1, _⟩; rw [sect_more h] at h1; cases h1

theorem ep_first (q e : Nat) (b : Bytes) (he : e < 4294967296) : ep (sectOf (hdrOf q e b) 0) = e := by
  have hal := hdrOf_len q e b
  have : (((sectOf (hdrOf q e b) 0).drop 9).take 4) = le4 e := by
    unfold sectOf
    simp only [Nat.zero_mul, List.drop_zero, List.drop_succ_cons]
    have h12 : 12 ≤ ((hdrOf q e b).take 63).length := by rw [List.length_take, hal]; omega
    rw [List.drop_append_of_le_length (by omega), List.take_append_of_le_length (by rw [List.length_drop]; omega), List.drop_take, List.take_take]
    unfold hdrOf
    have : ∀ x y z r : Bytes, x.length = 4 → y.length = 4 → z.length = 4 → List.take (min 4 (63 - 8)) (List.drop 8 (x ++ (y ++ (z ++ r)))) = z := by
      intro x y z r h1 h2 h3
      rw [show x ++ (y ++ (z ++ r)) = (x ++ y) ++ (z ++ r) by simp, List.drop_append, List.drop_eq_nil_of_le (by simp; omega), show 8 - (x ++ y).length = 0 by simp; omega]
      rw [List.drop_zero, List.nil_append, show min 4 (63 - 8) = 4 from rfl, List.take_append_of_le_length (by omega), List.take_of_length_le (by omega)]
    exact this _ _ _ _ (le4_len _) (le4_len _) (le4_len _)
  unfold ep
  rw [this]
  exact val4_le4 e he

/-- the log stands as it was -/
theorem Rep.stands {f f' : Nat → Bytes} {n e h T T' : Nat} {list : List Bytes} (r : Rep f n e h list T) (h2 : ∀ a, a < 2 → f' a = f a) (hT : T ≤ T') (hT' : T' ≤ 2147483648)
    (hk : ∀ k, k < total list → f' (2 + h * ((n - 2) / 2) + k) = f (2 + h * ((n - 2) / 2) + k))
    (hs : ∀ k, total list ≤ k → k < (n - 2) / 2 → Stale e (f' (2 + h * ((n - 2) / 2) + k)))
    (ht : ∀ a, 2 ≤ a → a < n → (f' a)[0]? = some 2 → ep (f' a) ≤ T') (hl : ∀ a, a < n → (f' a).length = 64) : Rep f' n e h list T' := by
  have hh := r.half
  exact ⟨r.size, r.half, ⟨r.epoch.1, Nat.le_trans r.epoch.2 hT⟩, hT', r.lies.congr (fun k _ k2 => hk k (by omega)), r.room, hs, by rw [h2 h (by omega)]; exact r.head,
    by rw [h2 (1 - h) (by omega)]; exact r.other, ht, hl⟩

/-- the power went while a record was being kept -/
theorem Rep.torn {f f' : Nat → Bytes} {n e h T : Nat} {list : List Bytes} (r : Rep f n e h list T) {all : Bytes} {k : Nat} (hk : total list + k ≤ (n - 2) / 2)
    (hf : ∀ a, a < n → f' a = f a ∨ (2 + h * ((n - 2) / 2) + total list + 1 ≤ a ∧ a < 2 + h * ((n - 2) / 2) + total list + k ∧ ∃ j, 1 ≤ j ∧ f' a = sectOf all j)) : Rep f' n e h list T := by
  have hh := r.half
  have hsz := r.size
  have hm : h * ((n - 2) / 2) ≤ (n - 2) / 2 := by have := Nat.mul_le_mul_right ((n - 2) / 2) hh; omega
  refine r.stands (fun a ha => ?_) (Nat.le_refl _) r.top (fun k' hk' => ?_) (fun k' h1 h3 => ?_) (fun a h1 h3 hm2 => ?_) (fun a ha => ?_)
  · rcases hf a (by omega) with e | ⟨e, _⟩
    · exact e
    · omega
  · rcases hf (2 + h * ((n - 2) / 2) + k') (by omega) with e | ⟨e, _⟩
    · exact e
    · omega
  · rcases hf (2 + h * ((n - 2) / 2) + k') (by omega) with e | ⟨_, _, j, hj, e⟩
    · rw [e]; exact r.stale k' h1 h3
    · rw [e]; exact stale_more hj
  · rcases hf a h3 with e | ⟨_, _, j, hj, e⟩
    · rw [e] at hm2 ⊢; exact r.tops a h1 h3 hm2
    · rw [e, sect_more hj] at hm2; cases hm2
  · rcases hf a ha with e | ⟨_, _, j, hj, e⟩
    · rw [e]; exact r.len a ha
    · rw [e]; exact sectOf_len _ _

/-- a record was kept -/
theorem Rep.kept {f f' : Nat → Bytes} {n e h T : Nat} {list : List Bytes} (r : Rep f n e h list T) {b : Bytes} (hb : b.length ≤ 4096) (hk : total list + sectorsOf b.length ≤ (n - 2) / 2)
    (hf : ∀ a, a < n → f' a = if 2 + h * ((n - 2) / 2) + total list ≤ a ∧ a < 2 + h * ((n - 2) / 2) + total list + sectorsOf b.length then sectOf (hdrOf list.length e b) (a - (2 + h * ((n - 2) / 2) + total list)) else f a) :
    Rep f' n e h (list ++ [b]) T := by
  have hh := r.half
  have hsz := r.size
  have hee := r.epoch
  have hT := r.top
  have hm : h * ((n - 2) / 2) ≤ (n - 2) / 2 := by have := Nat.mul_le_mul_right ((n - 2) / 2) hh; omega
  have htot : total (list ++ [b]) = total list + sectorsOf b.length := by rw [total_app]; simp [total]
  have hs1 : 1 ≤ sectorsOf b.length := by unfold sectorsOf; omega
  refine ⟨r.size, r.half, r.epoch, r.top, ?_, by omega, fun k h1 h3 => ?_, ?_, ?_, fun a h1 h3 hm2 => ?_, fun a ha => ?_⟩
  · refine (r.lies.congr (f' := f') fun k _ k2 => ?_).snoc (fun j hj => ?_) hb
    · rw [hf _ (by omega), if_neg (by omega)]
    · rw [Nat.zero_add, Nat.zero_add, hf _ (by omega), if_pos (by omega)]
      congr 1; omega
  · rw [hf _ (by omega), if_neg (by omega)]
    exact r.stale k (by omega) h3
  · rw [hf h (by omega), if_neg (by omega)]; exact r.head
  · rw [hf (1 - h) (by omega), if_neg (by omega)]; exact r.other
  · rw [hf a h3] at hm2 ⊢
    split at hm2
    · rename_i hc
      rw [if_pos hc]
      by_cases h0 : a - (2 + h * ((n - 2) / 2) + total list) = 0
      · rw [h0, ep_first _ _ _ (by omega)]; exact hee.2
      · rw [sect_more (by omega)] at hm2; cases hm2
    · rename_i hc
      rw [if_neg hc]
      exact r.tops a h1 h3 hm2
  · rw [hf a ha]
    split
    · exact sectOf_len _ _
    · exact r.len a ha

/-- the sectors of records, one behind the other -/
def allSecs (e : Nat) : Nat → List Bytes → List Bytes
  | _, [] => []
  | q, b :: r => cutOf q e b ++ allSecs e (q + 1) r

theorem allSecs_len (e : Nat) : ∀ (rs : List Bytes) (q : Nat), (allSecs e q rs).length = total rs := by
  intro rs
  induction rs with
  | nil => intro q; rfl
  | cons b r ih => intro q; simp only [allSecs, total, List.length_append, cutOf_len, ih]

theorem allSecs_mem {e : Nat} (he : e < 4294967296) : ∀ (rs : List Bytes) (q : Nat) (s : Bytes), s ∈ allSecs e q rs → s.length = 64 ∧ (s[0]? = some 2 → ep s = e) := by
  intro rs
  induction rs with
  | nil => intro q s h; cases h
  | cons b r ih =>
    intro q s h
    rcases List.mem_append.1 h with h | h
    · obtain ⟨i, hi, rfl⟩ := List.mem_map.1 h
      refine ⟨sectOf_len _ _, fun hm => ?_⟩
      by_cases h0 : i = 0
      · subst h0; exact ep_first _ _ _ he
      · rw [sect_more (by omega)] at hm; cases hm
    · exact ih (q + 1) s h

theorem lies_secs {f : Nat → Bytes} {B e : Nat} : ∀ (rs : List Bytes) (p q : Nat), (∀ b ∈ rs, b.length ≤ 4096) → (∀ j, j < total rs → f (B + p + j) = (allSecs e q rs).getD j []) → Lies f B e p q rs := by
  intro rs
  induction rs with
  | nil => intro p q _ _; trivial
  | cons b r ih =>
    intro p q h4 h
    simp only [total, allSecs] at h
    have hl := cutOf_len q e b
    refine ⟨fun j hj => ?_, h4 b (.head _), ih (p + sectorsOf b.length) (q + 1) (fun x hx => h4 x (.tail _ hx)) fun j hj => ?_⟩
    · rw [h j (by omega), List.getD_eq_getElem?_getD, List.getElem?_append_left (by omega)]
      unfold cutOf
      rw [List.getElem?_map, List.getElem?_range hj]; rfl
    · have := h (sectorsOf b.length + j) (by omega)
      rw [show B + (p + sectorsOf b.length) + j = B + p + (sectorsOf b.length + j) by omega, this, List.getD_eq_getElem?_getD, List.getElem?_append_right (by omega), hl, Nat.add_sub_cancel_left, List.getD_eq_getElem?_getD]

/-- a log was written anew -/
theorem Rep.anew {f f' : Nat → Bytes} {n t h : Nat} {bss : List Bytes} (hsz : 6 ≤ n ∧ n ≤ 4096) (hh : h ≤ 1) (ht : t + 1 ≤ 2147483648) (h4 : ∀ b ∈ bss, b.length ≤ 4096) (hroom : total bss ≤ (n - 2) / 2)
    (hlen : ∀ a, a < n → (f a).length = 64) (htops : ∀ a, 2 ≤ a → a < n → (f a)[0]? = some 2 → ep (f a) ≤ t) (hheads : ∀ a, a < 2 → (goodOf (f a)).2 = true → (goodOf (f a)).1 ≤ t)
    (hf : ∀ a, a < n → f' a = if 2 + h * ((n - 2) / 2) ≤ a ∧ a < 2 + h * ((n - 2) / 2) + total bss then (allSecs (t + 1) 0 bss).getD (a - (2 + h * ((n - 2) / 2))) [] else if a = h then headSect (t + 1) else f a) :
    Rep f' n (t + 1) h bss (t + 1) := by
  have hm : h * ((n - 2) / 2) ≤ (n - 2) / 2 := by have := Nat.mul_le_mul_right ((n - 2) / 2) hh; omega
  have hal := allSecs_len (t + 1) bss 0
  have hin : ∀ j, j < total bss → (allSecs (t + 1) 0 bss).getD j [] ∈ allSecs (t + 1) 0 bss := fun j hj => by
    rw [List.getD_eq_getElem?_getD, List.getElem?_eq_getElem (by omega)]; exact List.getElem_mem _
  refine ⟨hsz, hh, ⟨by omega, Nat.le_refl _⟩, ht, ?_, hroom, fun k h1 h3 => ?_, ?_, fun hg => ?_, fun a h1 h3 hm2 => ?_, fun a ha => ?_⟩
  · refine lies_secs bss 0 0 h4 fun j hj => ?_
    rw [Nat.add_zero, hf _ (by omega), if_pos (by omega)]
    congr 1; omega
  · rw [hf _ (by omega), if_neg (by omega), if_neg (by omega)]
    rintro ⟨g1, g2⟩
    have := htops _ (by omega) (by omega) g1
    omega
  · rw [hf h (by omega), if_neg (by omega), if_pos rfl]
  · rw [hf (1 - h) (by omega), if_neg (by omega), if_neg (by omega)] at hg ⊢
    have := hheads (1 - h) (by omega) hg
    omega
  · rw [hf a h3] at hm2 ⊢
    split at hm2
    · rename_i hc
      rw [if_pos hc]
      have := (allSecs_mem (by omega) bss 0 _ (hin (a - (2 + h * ((n - 2) / 2))) (by omega))).2 hm2
      omega
    · rename_i hc
      rw [if_neg hc, if_neg (by omega)]
      rw [if_neg (by omega)] at hm2
      have := htops a h1 h3 hm2; omega
  · rw [hf a ha]
    split
    · exact (allSecs_mem (by omega) bss 0 _ (hin (a - (2 + h * ((n - 2) / 2))) (by omega))).1
    · split
      · rfl
      · exact hlen a ha

/-- the power went while a log was being written anew -/
theorem Rep.tornAnew {f f' : Nat → Bytes} {n e h T t : Nat} {list bss : List Bytes} (r : Rep f n e h list T) (ht : t + 1 ≤ 2147483648) (hroom : total bss ≤ (n - 2) / 2)
    (hf : ∀ a, a < n → f' a = f a ∨ (2 + (1 - h) * ((n - 2) / 2) ≤ a ∧ a < 2 + (1 - h) * ((n - 2) / 2) + total bss ∧ f' a ∈ allSecs (t + 1) 0 bss)) : Rep f' n e h list (max T (t + 1)) := by
  have hh := r.half
  have hsz := r.size
  have hT := r.top
  have hro := r.room
  have hcase : h = 0 ∨ h = 1 := by omega
  have dis : ∀ k, k < (n - 2) / 2 → f' (2 + h * ((n - 2) / 2) + k) = f (2 + h * ((n - 2) / 2) + k) := by
    intro k hk
    rcases hcase with rfl | rfl
    · rcases hf (2 + 0 * ((n - 2) / 2) + k) (by omega) with e | ⟨e, _⟩
      · exact e
      · omega
    · rcases hf (2 + 1 * ((n - 2) / 2) + k) (by omega) with e | ⟨_, e, _⟩
      · exact e
      · omega
  refine r.stands (fun a ha => ?_) (by omega) (by omega) (fun k' hk' => dis k' (by omega)) (fun k' h1 h3 => by rw [dis k' h3]; exact r.stale k' h1 h3) (fun a h1 h3 hm2 => ?_) (fun a ha => ?_)
  · rcases hf a (by omega) with e | ⟨e, _⟩
    · exact e
    · omega
  · rcases hf a h3 with e | ⟨_, _, e⟩
    · rw [e] at hm2 ⊢; have := r.tops a h1 h3 hm2; omega
    · have := (allSecs_mem (by omega) bss 0 _ e).2 hm2; omega
  · rcases hf a ha with e | ⟨_, _, e⟩
    · rw [e]; exact r.len a ha
    · exact (allSecs_mem (by omega) bss 0 _ e).1
end Go.Proofs.YtnfomoeicgdkkaaGreatDoor

/- Logs that are held: opened, appended to. -/
set_option linter.unusedSimpArgs false
set_option linter.unusedVariables false
namespace Go.Proofs.YtnfomoeicgdkkaaGreatDoor

theorem fK_keepAll : ∀ (ss : List Bytes) (a i : Nat) (K : List Bytes), a + ss.length ≤ K.length → fK (DiskS.keepAll (DiskS.puts a ss) K) i = if a ≤ i ∧ i < a + ss.length then ss.getD (i - a) [] else fK K i := by
  intro ss
  induction ss with
  | nil => intro a i K _; simp only [DiskS.puts, DiskS.keepAll, List.length_nil]; rw [if_neg (by omega)]
  | cons s r ih =>
    intro a i K h
    simp only [List.length_cons] at h
    simp only [DiskS.puts, DiskS.keepAll, List.length_cons]
    rw [ih (a + 1) i (K.set a s) (by rw [List.length_set]; omega)]
    by_cases h1 : a + 1 ≤ i ∧ i < a + 1 + r.length
    · rw [if_pos h1, if_pos (by omega), show i - a = (i - (a + 1)) + 1 by omega, List.getD_cons_succ]
    · rw [if_neg h1]
      by_cases h2 : i = a
      · subst h2
        rw [if_pos (by omega), Nat.sub_self, List.getD_cons_zero]
        unfold fK
        rw [List.getD_eq_getElem?_getD, List.getElem?_set, if_pos rfl, if_pos (by omega)]; rfl
      · rw [if_neg (by omega)]
        unfold fK
        rw [List.getD_eq_getElem?_getD, List.getElem?_set, if_neg (by omega), List.getD_eq_getElem?_getD]

theorem puts_mem : ∀ (ss : List Bytes) (b a : Nat) (s : Bytes), (a, s) ∈ DiskS.puts b ss → ∃ j, j < ss.length ∧ a = b + j ∧ ss[j]? = some s := by
  intro ss
  induction ss with
  | nil => intro b a s h; cases h
  | cons x r ih =>
    intro b a s h
    rcases List.mem_cons.1 h with h | h
    · cases h; exact ⟨0, by simp, rfl, rfl⟩
    · obtain ⟨j, h1, h2, h3⟩ := ih (b + 1) a s h
      exact ⟨j + 1, by simp; omega, by omega, by simpa using h3⟩

theorem Mix.at {K K' : List Bytes} {C : List (Nat × Bytes)} (h : Mix K C K') (a : Nat) : fK K' a = fK K a ∨ ∃ s, (a, s) ∈ C ∧ fK K' a = s := by
  unfold fK
  simp only [List.getD_eq_getElem?_getD]
  rcases h.2 a with e | ⟨s, m, e⟩
  · exact .inl (by rw [e])
  · exact .inr ⟨s, m, by rw [e]; rfl⟩

structure Held (L : LogS) (D : DiskS) (rs : List Bytes) : Prop where
  ok : L.Ok D
  list : L.list = rs
  pos : L.pos = total rs
  dead : L.dead = false
  down : D.down = false
  cache : D.cache = []
  rep : Rep (fK D.kept) D.kept.length L.epoch L.half rs L.top

theorem Rep.lower {f : Nat → Bytes} {n e h T t : Nat} {list : List Bytes} (r : Rep f n e h list T) (h1 : e ≤ t) (h2 : t ≤ T) (h3 : ∀ a, 2 ≤ a → a < n → (f a)[0]? = some 2 → ep (f a) ≤ t) : Rep f n e h list t :=
  ⟨r.size, r.half, ⟨r.epoch.1, h1⟩, Nat.le_trans h2 r.top, r.lies, r.room, r.stale, r.head, r.other, h3, r.len⟩

theorem open_held {D : DiskS} (hok : D.Ok) (hd : D.down = false) (hc : D.cache = []) {e h T : Nat} {list : List Bytes} (r : Rep (fK D.kept) D.kept.length e h list T) :
    ∃ L, openS D = (0, some L, D) ∧ Held L D list ∧ L.top ≤ T ∧ L.epoch = e ∧ L.half = h := by
  have r' : Rep D.at_ D.kept.length e h list T := by rw [at_nil hc]; exact r
  obtain ⟨t, t1, t2, t3, ho⟩ := open_rep r'
  rw [at_nil hc] at t3
  have hT := r.top
  have hl := len_le_total list
  exact ⟨_, ho, ⟨⟨r.half, r.room, by dsimp only; omega, by dsimp only; omega, hl, hok, r.size.1⟩, rfl, rfl, rfl, hd, hc, r.lower t1 t2 t3⟩, t2, rfl, rfl⟩

theorem append_held {L : LogS} {D : DiskS} {list : List Bytes} (hd : Held L D list) {b : Bytes} (hb : b.length ≤ 4096) (hroom : total list + sectorsOf b.length ≤ D.hf) :
    ((L.append D b).1 = 0 ∧ Held (L.append D b).2.1 (L.append D b).2.2 (list ++ [b]) ∧ (D.fate ≤ 0 → (L.append D b).2.2.fate ≤ 0) ∧ (L.append D b).2.2.kept.length = D.kept.length) ∨
    ((L.append D b).1 = 3 ∧ 0 < D.fate ∧ (L.append D b).2.1.dead = true ∧ (L.append D b).2.2.Ok ∧ (L.append D b).2.2.down = true ∧ (L.append D b).2.2.cache = [] ∧ (L.append D b).2.2.fate = -1 ∧ (L.append D b).2.2.kept.length = D.kept.length ∧
      ∃ l', (l' = list ∨ l' = list ++ [b]) ∧ Rep (fK (L.append D b).2.2.kept) D.kept.length L.epoch L.half l' L.top) := by
  have hok := (L.append_ok hd.ok (by rw [hd.cache]; simp) b)
  have r := hd.rep
  have hh := r.half
  have hsz := r.size
  have hpos := hd.pos
  have hlist := hd.list
  have hs1 : 1 ≤ sectorsOf b.length := by unfold sectorsOf; omega
  have hhf : D.hf = (D.kept.length - 2) / 2 := rfl
  have hm : L.half * ((D.kept.length - 2) / 2) ≤ (D.kept.length - 2) / 2 := by have := Nat.mul_le_mul_right ((D.kept.length - 2) / 2) hh; omega
  have hbase : L.base D L.pos = 2 + L.half * ((D.kept.length - 2) / 2) + total list := by unfold LogS.base; rw [hhf, hpos]
  have hcl := cutOf_len L.list.length L.epoch b
  have hko := L.keep_out hd.down hd.cache (ss := cutOf L.list.length L.epoch b) (by omega) (by rw [hbase]; omega)
  unfold LogS.append at hok ⊢
  rw [if_neg (by simp [hd.dead]), if_neg (by omega), if_neg (by omega)] at hok ⊢
  rw [hlist, hbase] at hko
  rw [hlist] at hok ⊢
  rw [hlist] at hcl
  have hgt : (cutOf list.length L.epoch b).take 1 = [sectOf (hdrOf list.length L.epoch b) 0] := by
    unfold cutOf
    obtain ⟨k, hk⟩ : ∃ k, sectorsOf b.length = k + 1 := ⟨sectorsOf b.length - 1, by omega⟩
    rw [hk, List.range_succ_eq_map]; rfl
  have hgd : ∀ j, j < (cutOf list.length L.epoch b).tail.length → (cutOf list.length L.epoch b).tail[j]? = some (sectOf (hdrOf list.length L.epoch b) (j + 1)) := by
    intro j hj
    rw [List.length_tail] at hj
    rw [List.getElem?_tail]
    unfold cutOf
    rw [List.getElem?_map, List.getElem?_range (by omega)]; rfl
  have htl : (cutOf list.length L.epoch b).tail.length = sectorsOf b.length - 1 := by rw [List.length_tail]; omega
  generalize hB : 2 + L.half * ((D.kept.length - 2) / 2) + total list = B at *
  have f1 : ∀ i, fK (DiskS.keepAll (DiskS.puts (B + 1) (cutOf list.length L.epoch b).tail) D.kept) i = if B + 1 ≤ i ∧ i < B + sectorsOf b.length then sectOf (hdrOf list.length L.epoch b) (i - B) else fK D.kept i := by
    intro i
    rw [fK_keepAll _ _ _ _ (by omega)]
    by_cases hi : B + 1 ≤ i ∧ i < B + sectorsOf b.length
    · rw [if_pos (by omega), if_pos hi, List.getD_eq_getElem?_getD, hgd _ (by omega), show i - (B + 1) + 1 = i - B by omega]; rfl
    · rw [if_neg (by omega), if_neg hi]
  rw [hgt] at hko
  have hk1 : (DiskS.keepAll (DiskS.puts (B + 1) (cutOf list.length L.epoch b).tail) D.kept).length = D.kept.length := DiskS.keepAll_len _ _
  generalize L.keep D (cutOf list.length L.epoch b) = x at *
  rcases hko with ⟨k1, k2, k3, k4, k5⟩ | ⟨k1, k2, k3, k4, k5, k6⟩
  · rw [if_pos k1] at hok ⊢
    refine .inl ⟨rfl, ⟨hok.1, rfl, by rw [total_app]; simp only [total]; omega, hd.dead, k2, k3, ?_⟩, k4, hok.2.size⟩
    dsimp only
    rw [hok.2.size]
    refine r.kept hb (by omega) fun a ha => ?_
    rw [k5, fK_keepAll _ _ _ _ (by rw [hk1]; simp only [List.length_singleton]; omega), f1, hB]
    simp only [List.length_singleton]
    by_cases h1 : a = B
    · subst h1
      rw [if_pos (by omega), if_pos (by omega), Nat.sub_self]; rfl
    · rw [if_neg (by omega)]
      by_cases h2 : B + 1 ≤ a ∧ a < B + sectorsOf b.length
      · rw [if_pos h2, if_pos (by omega)]
      · rw [if_neg h2, if_neg (by omega)]
  · rw [if_neg (by omega)] at hok ⊢
    refine .inr ⟨k1, k2, rfl, hok.2.ok, k3, k4, k5, hok.2.size, ?_⟩
    dsimp only
    rcases k6 with k6 | k6
    · refine ⟨list, .inl rfl, r.torn (all := hdrOf list.length L.epoch b) (k := sectorsOf b.length) (by omega) fun a ha => ?_⟩
      rcases k6.at a with e | ⟨s, m, e⟩
      · exact .inl e
      · obtain ⟨j, j1, j2, j3⟩ := puts_mem _ _ _ _ m
        rw [hgd j j1, Option.some.injEq] at j3
        exact .inr ⟨by omega, by omega, j + 1, by omega, by rw [e, j3]⟩
    · rcases k6.at B with e | ⟨s, m, e⟩
      · refine ⟨list, .inl rfl, r.torn (all := hdrOf list.length L.epoch b) (k := sectorsOf b.length) (by omega) fun a ha => ?_⟩
        have : fK x.2.kept a = fK (DiskS.keepAll (DiskS.puts (B + 1) (cutOf list.length L.epoch b).tail) D.kept) a := by
          rcases k6.at a with e2 | ⟨s, m, e2⟩
          · exact e2
          · obtain ⟨j, j1, j2, j3⟩ := puts_mem _ _ _ _ m
            simp only [List.length_singleton] at j1
            have : a = B := by omega
            rw [this]; exact e
        rw [this, f1]
        by_cases h2 : B + 1 ≤ a ∧ a < B + sectorsOf b.length
        · rw [if_pos h2]
          exact .inr ⟨by omega, by omega, a - B, by omega, rfl⟩
        · rw [if_neg h2]; exact .inl rfl
      · refine ⟨list ++ [b], .inr rfl, r.kept hb (by omega) fun a ha => ?_⟩
        obtain ⟨j, j1, j2, j3⟩ := puts_mem _ _ _ _ m
        simp only [List.length_singleton] at j1
        have j0 : j = 0 := by omega
        subst j0
        simp only [List.getElem?_cons_zero, Option.some.injEq] at j3
        rw [hB]
        by_cases h1 : a = B
        · subst h1
          rw [if_pos (by omega), e, ← j3, Nat.sub_self]
        · have : fK x.2.kept a = fK (DiskS.keepAll (DiskS.puts (B + 1) (cutOf list.length L.epoch b).tail) D.kept) a := by
            rcases k6.at a with e2 | ⟨s, m, e2⟩
            · exact e2
            · obtain ⟨j, j1, j2, j3⟩ := puts_mem _ _ _ _ m
              simp only [List.length_singleton] at j1
              omega
          rw [this, f1]
          by_cases h2 : B + 1 ≤ a ∧ a < B + sectorsOf b.length
          · rw [if_pos h2, if_pos (by omega)]
          · rw [if_neg h2, if_neg (by omega)]
end Go.Proofs.YtnfomoeicgdkkaaGreatDoor

/- Logs that are written anew. -/
set_option linter.unusedSimpArgs false
set_option linter.unusedVariables false
namespace Go.Proofs.YtnfomoeicgdkkaaGreatDoor

theorem puts_app : ∀ (xs ys : List Bytes) (a : Nat), DiskS.puts a (xs ++ ys) = DiskS.puts a xs ++ DiskS.puts (a + xs.length) ys := by
  intro xs
  induction xs with
  | nil => intro ys a; rfl
  | cons x xs ih =>
    intro ys a
    simp only [List.cons_append, DiskS.puts, ih, List.length_cons]
    rw [show a + 1 + xs.length = a + (xs.length + 1) by omega]

theorem rw_out : ∀ (rs : List Bytes) (L : LogS) (D : DiskS), D.down = false → L.base D L.pos + total rs ≤ D.kept.length →
    ((rw_ L D rs).1 = 0 ∧ (rw_ L D rs).2.1 = { L with pos := L.pos + total rs, list := L.list ++ rs } ∧ (rw_ L D rs).2.2.down = false ∧ (rw_ L D rs).2.2.kept = D.kept ∧
      (rw_ L D rs).2.2.cache = D.cache ++ DiskS.puts (L.base D L.pos) (allSecs L.epoch L.list.length rs) ∧ (D.fate ≤ 0 → (rw_ L D rs).2.2.fate ≤ 0)) ∨
    ((rw_ L D rs).1 = 3 ∧ 0 < D.fate ∧ (rw_ L D rs).2.1.dead = true ∧ (rw_ L D rs).2.2.down = true ∧ (rw_ L D rs).2.2.cache = [] ∧ (rw_ L D rs).2.2.fate = -1 ∧
      Mix D.kept (D.cache ++ DiskS.puts (L.base D L.pos) (allSecs L.epoch L.list.length rs)) (rw_ L D rs).2.2.kept) := by
  intro rs
  induction rs with
  | nil => intro L D hd _; exact .inl ⟨rfl, by simp [rw_, total], hd, rfl, by simp [rw_, allSecs, DiskS.puts], fun h => h⟩
  | cons b r ih =>
    intro L D hd hb
    simp only [total] at hb
    have hcl := cutOf_len L.list.length L.epoch b
    have ho := DiskS.put_out (cutOf L.list.length L.epoch b) hd (L.base D L.pos) (by omega)
    simp only [rw_, allSecs, puts_app, total]
    rw [hcl]
    generalize hss : cutOf L.list.length L.epoch b = ss at *
    generalize D.put (L.base D L.pos) ss = x at *
    rcases ho with ⟨h1, h2, h3, h4, h5⟩ | ⟨h1, h2, h3, h4, h5, h6⟩
    · rw [if_pos h1]
      have hbase : LogS.base { L with pos := L.pos + sectorsOf b.length, list := L.list ++ [b] } x.2 (L.pos + sectorsOf b.length) = L.base D L.pos + sectorsOf b.length := by
        unfold LogS.base; rw [hf_eq (D := D) (D' := x.2) (by rw [h3])]; dsimp only; omega
      have := ih { L with pos := L.pos + sectorsOf b.length, list := L.list ++ [b] } x.2 h2 (by dsimp only; rw [hbase, h3]; omega)
      dsimp only at this
      rw [hbase, h3, h4] at this
      simp only [List.length_append, List.length_singleton, List.append_assoc, List.singleton_append] at this
      rcases this with ⟨g1, g2, g3, g4, g5, g6⟩ | ⟨g1, g2, g3, g4, g5, g6, g7⟩
      · exact .inl ⟨g1, by rw [g2, Nat.add_assoc], g3, g4, g5, fun h => g6 (h5 h)⟩
      · refine .inr ⟨g1, ?_, g3, g4, g5, g6, g7⟩
        rcases Int.lt_or_le 0 D.fate with q | q
        · exact q
        · have := h5 q; omega
    · rw [if_neg (by omega)]
      refine .inr ⟨h1, h2, rfl, h3, h4, h5, h6.mono fun y hy => ?_⟩
      rw [← List.append_assoc]
      exact List.mem_append_left _ hy

theorem finish_out {L : LogS} {D : DiskS} (hd : D.down = false) (hh : L.half < D.kept.length) :
    ((finish L D).1 = 0 ∧ (finish L D).2.down = false ∧ (finish L D).2.cache = [] ∧ (D.fate ≤ 0 → (finish L D).2.fate ≤ 0) ∧ (finish L D).2.kept = (DiskS.keepAll D.cache D.kept).set L.half (headSect L.epoch)) ∨
    ((finish L D).1 = 3 ∧ 0 < D.fate ∧ (finish L D).2.down = true ∧ (finish L D).2.cache = [] ∧ (finish L D).2.fate = -1 ∧
      (Mix D.kept D.cache (finish L D).2.kept ∨ Mix (DiskS.keepAll D.cache D.kept) [(L.half, headSect L.epoch)] (finish L D).2.kept)) := by
  have hk : (DiskS.keepAll D.cache D.kept).length = D.kept.length := DiskS.keepAll_len _ _
  have ho := DiskS.flush_out hd
  unfold finish
  generalize D.flush = x at *
  rcases ho with ⟨h1, h2, h3, h4, h5⟩ | ⟨h1, h2, h3, h4, h5, h6⟩
  · rw [andThen_ok h1]
    have hw := DiskS.write_out h2 (show L.half < x.2.kept.length by rw [h3, hk]; exact hh) (headSect L.epoch)
    rw [h4, List.nil_append, h3] at hw
    generalize x.2.write (L.half : Int) (headSect L.epoch) = y at *
    rcases hw with ⟨g1, g2, g3, g4, g5⟩ | ⟨g1, g2, g3, g4, g5, g6⟩
    · rw [andThen_ok g1]
      have hf := DiskS.flush_out g2
      rw [g3, g4] at hf
      generalize y.2.flush = z at *
      rcases hf with ⟨f1, f2, f3, f4, f5⟩ | ⟨f1, f2, f3, f4, f5, f6⟩
      · exact .inl ⟨f1, f2, f4, fun h => f5 (g5 (h5 h)), f3⟩
      · refine .inr ⟨f1, ?_, f3, f4, f5, .inr (by rw [g3] at f6; exact f6)⟩
        rcases Int.lt_or_le 0 D.fate with q | q
        · exact q
        · have := g5 (h5 q); omega
    · rw [andThen_bad (by omega)]
      refine .inr ⟨g1, ?_, g3, g4, g5, .inr (by rw [h3] at g6; exact g6)⟩
      rcases Int.lt_or_le 0 D.fate with q | q
      · exact q
      · have := h5 q; omega
  · rw [andThen_bad (by omega)]
    exact .inr ⟨h1, h2, h3, h4, h5, .inl h6⟩

theorem fK_set {K : List Bytes} {i : Nat} {s : Bytes} (h : i < K.length) (a : Nat) : fK (K.set i s) a = if a = i then s else fK K a := by
  unfold fK
  rw [List.getD_eq_getElem?_getD, List.getElem?_set]
  by_cases e : a = i
  · subst e; rw [if_pos rfl, if_pos h, if_pos rfl]; rfl
  · rw [if_neg (fun x => e x.symm), if_neg e, List.getD_eq_getElem?_getD]

theorem rewrite_out {L : LogS} {D : DiskS} (ok : L.Ok D) (hdead : L.dead = false) (hd : D.down = false) (hc : D.cache = []) {bss : List Bytes} (h4 : ∀ b ∈ bss, b.length ≤ 4096) (hroom : total bss ≤ D.hf) (ht : L.top + 1 ≤ 2147483648)
    (htops : ∀ a, 2 ≤ a → a < D.kept.length → (fK D.kept a)[0]? = some 2 → ep (fK D.kept a) ≤ L.top) (hheads : ∀ a, a < 2 → (goodOf (fK D.kept a)).2 = true → (goodOf (fK D.kept a)).1 ≤ L.top) :
    ((L.rewrite D bss).1 = 0 ∧ Held (L.rewrite D bss).2.1 (L.rewrite D bss).2.2 bss ∧ (D.fate ≤ 0 → (L.rewrite D bss).2.2.fate ≤ 0) ∧ (L.rewrite D bss).2.2.kept.length = D.kept.length ∧ (L.rewrite D bss).2.1.top = L.top + 1) ∨
    ((L.rewrite D bss).1 = 3 ∧ 0 < D.fate ∧ (L.rewrite D bss).2.1.dead = true ∧ (L.rewrite D bss).2.2.Ok ∧ (L.rewrite D bss).2.2.down = true ∧ (L.rewrite D bss).2.2.cache = [] ∧ (L.rewrite D bss).2.2.fate = -1 ∧ (L.rewrite D bss).2.2.kept.length = D.kept.length ∧
      (Rep (fK (L.rewrite D bss).2.2.kept) D.kept.length (L.top + 1) (1 - L.half) bss (L.top + 1) ∨
       ∀ a, a < D.kept.length → fK (L.rewrite D bss).2.2.kept a = fK D.kept a ∨ (2 + (1 - L.half) * ((D.kept.length - 2) / 2) ≤ a ∧ a < 2 + (1 - L.half) * ((D.kept.length - 2) / 2) + total bss ∧ fK (L.rewrite D bss).2.2.kept a ∈ allSecs (L.top + 1) 0 bss))) := by
  have hrok := LogS.rewrite_ok ok (by omega) (by rw [hc]; simp) bss
  have h6 := ok.size
  have hsz := ok.disk.size
  have hhf : D.hf = (D.kept.length - 2) / 2 := rfl
  have hh1 : 1 - L.half ≤ 1 := by omega
  have hm : (1 - L.half) * ((D.kept.length - 2) / 2) ≤ (D.kept.length - 2) / 2 := by have := Nat.mul_le_mul_right ((D.kept.length - 2) / 2) hh1; omega
  have hbase : L.anew.base D L.anew.pos = 2 + (1 - L.half) * ((D.kept.length - 2) / 2) := by unfold LogS.base LogS.anew; rw [hhf]; rfl
  have hrw := rw_out bss L.anew D hd (by rw [hbase]; omega)
  have hfin := fun D1 => @finish_out (rw_ L.anew D bss).2.1 D1
  have hno : ¬ ∃ b ∈ bss, 4096 < b.length := by rintro ⟨b, hb, h⟩; have := h4 b hb; omega
  have hlen : ∀ a, a < D.kept.length → (fK D.kept a).length = 64 := fun a ha => by
    unfold fK; rw [List.getD_eq_getElem?_getD, List.getElem?_eq_getElem ha]; exact ok.disk.kept _ (List.getElem_mem _)
  unfold LogS.rewrite at hrok ⊢
  rw [if_neg (by simp [hdead]), if_neg hno, if_neg (by omega)] at hrok ⊢
  rw [hbase, hc, List.nil_append] at hrw
  rw [show L.anew.epoch = L.top + 1 from rfl, show L.anew.list.length = 0 from rfl] at hrw
  generalize hB : 2 + (1 - L.half) * ((D.kept.length - 2) / 2) = B at *
  have hal := allSecs_len (L.top + 1) bss 0
  have hin : ∀ j, j < total bss → (allSecs (L.top + 1) 0 bss).getD j [] ∈ allSecs (L.top + 1) 0 bss := fun j hj => by
    rw [List.getD_eq_getElem?_getD, List.getElem?_eq_getElem (by omega)]; exact List.getElem_mem _
  have torn : ∀ K', Mix D.kept (DiskS.puts B (allSecs (L.top + 1) 0 bss)) K' → ∀ a, a < D.kept.length → fK K' a = fK D.kept a ∨ (B ≤ a ∧ a < B + total bss ∧ fK K' a ∈ allSecs (L.top + 1) 0 bss) := by
    intro K' hmix a ha
    rcases hmix.at a with e | ⟨s, m, e⟩
    · exact .inl e
    · obtain ⟨j, j1, j2, j3⟩ := puts_mem _ _ _ _ m
      exact .inr ⟨by omega, by omega, by rw [e]; exact List.mem_of_getElem? j3⟩
  generalize rw_ L.anew D bss = x at *
  unfold endRw at hrok ⊢
  rcases hrw with ⟨r1, r2, r3, r4, r5, r6⟩ | ⟨r1, r2, r3, r4, r5, r6, r7⟩
  · rw [if_pos r1] at hrok ⊢
    have hxh : x.2.1.half = 1 - L.half ∧ x.2.1.epoch = L.top + 1 ∧ x.2.1.dead = false ∧ x.2.1.list = bss ∧ x.2.1.pos = total bss ∧ x.2.1.top = L.top + 1 := by
      rw [r2]; exact ⟨rfl, rfl, hdead, rfl, by simp [LogS.anew], rfl⟩
    obtain ⟨x1, x2, x3, x4, x5, x6⟩ := hxh
    have hf := hfin x.2.2 r3 (by rw [x1, r4]; omega)
    rw [r4, r5, x1, x2] at hf
    have hkl : (DiskS.keepAll (DiskS.puts B (allSecs (L.top + 1) 0 bss)) D.kept).length = D.kept.length := DiskS.keepAll_len _ _
    have fa : ∀ i, fK (DiskS.keepAll (DiskS.puts B (allSecs (L.top + 1) 0 bss)) D.kept) i = if B ≤ i ∧ i < B + total bss then (allSecs (L.top + 1) 0 bss).getD (i - B) [] else fK D.kept i := by
      intro i; rw [fK_keepAll _ _ _ _ (by omega), hal]
    have new : ∀ K', (∀ a, a < D.kept.length → fK K' a = if a = 1 - L.half then headSect (L.top + 1) else fK (DiskS.keepAll (DiskS.puts B (allSecs (L.top + 1) 0 bss)) D.kept) a) → Rep (fK K') D.kept.length (L.top + 1) (1 - L.half) bss (L.top + 1) := by
      intro K' hK
      refine Rep.anew (f := fK D.kept) ⟨h6, hsz.2⟩ hh1 ht h4 (by omega) hlen htops hheads fun a ha => ?_
      rw [hK a ha, fa, hB]
      by_cases e : a = 1 - L.half
      · rw [if_pos e, if_neg (by omega), if_pos e]
      · rw [if_neg e, if_neg e]
    rcases hf with ⟨g1, g2, g3, g5, g4⟩ | ⟨g1, g2, g3, g4, g5, g6⟩
    · refine .inl ⟨g1, ⟨hrok.1, x4, x5, by dsimp only; rw [x3, g1]; rfl, g2, g3, ?_⟩, fun h => g5 (r6 h), hrok.2.1.size, x6⟩
      dsimp only
      rw [hrok.2.1.size, x2, x1, x6]
      exact new _ fun a ha => by rw [g4, fK_set (by rw [hkl]; omega)]
    · refine .inr ⟨g1, ?_, by dsimp only; rw [g1, x3]; rfl, hrok.2.1.ok, g3, g4, g5, hrok.2.1.size, ?_⟩
      · rcases Int.lt_or_le 0 D.fate with q | q
        · exact q
        · have := r6 q; omega
      dsimp only
      rcases g6 with g6 | g6
      · exact .inr (torn _ g6)
      · rcases g6.at (1 - L.half) with e | ⟨s, m, e⟩
        · refine .inr fun a ha => ?_
          have : fK (finish x.2.1 x.2.2).2.kept a = fK (DiskS.keepAll (DiskS.puts B (allSecs (L.top + 1) 0 bss)) D.kept) a := by
            rcases g6.at a with e2 | ⟨s, m, e2⟩
            · exact e2
            · rw [List.mem_singleton, Prod.mk.injEq] at m
              rw [m.1]; exact e
          rw [this, fa]
          by_cases hc : B ≤ a ∧ a < B + total bss
          · rw [if_pos hc]; exact .inr ⟨hc.1, hc.2, hin _ (by omega)⟩
          · rw [if_neg hc]; exact .inl rfl
        · refine .inl (new _ fun a ha => ?_)
          rw [List.mem_singleton, Prod.mk.injEq] at m
          by_cases h1 : a = 1 - L.half
          · rw [if_pos h1, h1, e, m.2]
          · rw [if_neg h1]
            rcases g6.at a with e2 | ⟨s, m, e2⟩
            · exact e2
            · rw [List.mem_singleton, Prod.mk.injEq] at m
              exact absurd m.1 h1
  · rw [if_neg (by omega)] at hrok ⊢
    exact .inr ⟨r1, r2, r3, hrok.2.1.ok, r4, r5, r6, hrok.2.1.size, .inr (torn _ r7)⟩
end Go.Proofs.YtnfomoeicgdkkaaGreatDoor
