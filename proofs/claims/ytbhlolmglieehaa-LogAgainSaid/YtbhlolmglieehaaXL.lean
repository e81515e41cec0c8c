/- A log is written anew again and again, the power going whenever. -/
import Derived.Test.YtbhlolmglieehaaXK
set_option linter.constructorNameAsVariable false
set_option linter.unusedSimpArgs false
set_option linter.unusedVariables false
namespace Go.Proofs.Ytbhlolmglieehaa

theorem total_le2 : ∀ (l : List Bytes), (∀ b ∈ l, b.length ≤ 100) → total l ≤ 2 * l.length := by
  intro l
  induction l with
  | nil => intro _; exact Nat.le_refl _
  | cons b l ih =>
    intro h
    have h1 := h b (.head _)
    have h2 := ih fun x hx => h x (.tail _ hx)
    have h3 : sectorsOf b.length ≤ 2 := by unfold sectorsOf; omega
    simp only [total, List.length_cons]; omega

/-- a disk that can be opened, with the records that are there then -/
def Ready (D : DiskS) (held : List Bytes) (T : Nat) : Prop := D.Ok ∧ D.down = false ∧ D.cache = [] ∧ ∃ L D', openS D = (0, some L, D') ∧ Held L D' held ∧ L.top ≤ T ∧ D'.kept.length = 80

theorem ready_bears {D : DiskS} {held : List Bytes} {T : Nat} (h : Bears D held T) (hd : D.down = false) (hk : D.kept.length = 80) : Ready D held T := by
  obtain ⟨L, h1, h2, h3⟩ := h.open_ hd
  exact ⟨h.ok, hd, h.cache, L, D, h1, h2, h3, hk⟩

/-- behind a rewriting, and a crash: the records of before, or the new ones -/
theorem anew_bears {L : LogS} {D : DiskS} {held rows : List Bytes} (h : Held L D held) (hk : D.kept.length = 80) (ht : L.top ≤ 1000) (h8 : rows.length ≤ 8) (h1 : ∀ b ∈ rows, b.length ≤ 100) (k2 : Nat) :
    ∃ l', (((L.rewrite D rows).1 = 0 ∧ l' = rows) ∨ ((L.rewrite D rows).1 = 3 ∧ (l' = held ∨ l' = rows))) ∧ Ready { (L.rewrite D rows).2.2.crash k2 with down := false } l' (L.top + 1) := by
  have hhf : D.hf = 39 := by unfold DiskS.hf; rw [hk]
  have ht2 := total_le2 rows h1
  rcases rewrite_held h (bss := rows) (fun b hb => by have := h1 b hb; omega) (by omega) (by omega) with ⟨a1, a2, a3, a4, a5⟩ | ⟨a1, a2, a3, a4, a5, l', a6, a7⟩
  · have hc := a2.bears.crash k2
    rw [a5] at hc
    exact ⟨rows, .inl ⟨a1, rfl⟩, ready_bears hc.1.on rfl (by rw [hc.2]; omega)⟩
  · have hc := a7.crash k2
    exact ⟨l', .inr ⟨a1, a6⟩, ready_bears hc.1.on rfl (by rw [hc.2]; omega)⟩

namespace Eng

/-- one value whose rows can be read -/
def Rd2 (F : Hp) (cs : List Value) (bss : List Bytes) : Prop := ∃ v, cs = [v] ∧ RdBB F v bss
def RdI1 (cs : List Value) (n : Int) : Prop := cs = [.int .i64 n]

theorem take_all (G : List HA) : Take G G [] := by
  induction G with
  | nil => exact .nil
  | cons p ps ih => exact .cons .here ih

theorem seps_app {A A' B B' : List HA} (f : ∀ h, seps A h → seps A' h) (g : ∀ h, seps B h → seps B' h) : ∀ h, seps (A ++ B) h → seps (A' ++ B') h := fun h q => by
  obtain ⟨x, y, sp, qx, qy⟩ := seps_append.1 q
  exact seps_append.2 ⟨x, y, sp, f x qx, g y qy⟩

/-- the ways of a region meet again -/
theorem Ops.via {P : Program} {F : Hp} {es : List EG} {l : Fr} {H : List HA} {C : Fr → List HA → Prop} (fr : Fr) (X : List HA) (tail : ∀ l2, FrSub l2 fr → C l2 X) (main : Ops P F es l H fun l2 H2 => FrSub l2 fr ∧ H2 = X) : Ops P F es l H C :=
  Ops.eq (C := fun l2 H2 => FrSub l2 fr ∧ H2 = X) (fun _ l' _ e h => by rw [h.2]; exact tail l' fun t v x => by rw [← e t]; exact h.1 t v x) (FrEq.refl _) main

theorem rows_none {H : List HA} : ∀ h, seps H h → seps (RowsP [] [] :: H) h := fun h q => ⟨noHp, h, Split.empty h, ⟨[], .nil, trivial⟩, q⟩

theorem lst_nil {b : Nat} {H : List HA} : ∀ h, seps (.pt b (.cells ([] : List Value).toArray 30 (0, 0)) :: H) h → seps (grp (LstK (.slice (some ⟨b, 0, none⟩) 0 0) []) :: H) h := fun h q => by
  refine lst_know h (fold_grp (I := LstI (.slice (some ⟨b, 0, none⟩) 0 0) []) (G := [OwnS (some ⟨b, 0, none⟩) 0 0 1 30 [], RowsP [] []]) (R := H) (.cons s0 (.cons s0 .nil)) ⟨_, _, [], rfl, rfl, rfl⟩ h ?_)
  refine fold_grp (I := OwnI (some ⟨b, 0, none⟩) 0 0 1 30 []) (.cons s0 .nil) ⟨rfl, .inr ⟨b, [], rfl, Nat.le_refl _, rfl, rfl⟩⟩ h ?_
  exact seps_cons (fun h q => rows_none h q) q

attribute [local irreducible] Ops Segs Run Spec

set_option maxHeartbeats 4000000 in
theorem law_LogAnews (tv sv : Value) (times : List (List Bytes)) (steps : List Int) (keeps : Nat) (hkp : keeps < 2 ^ 64) (F : Hp) (ht : RdL F 1 (Rd2 F) tv times) (hs : RdL F 1 RdI1 sv steps) :
    Spec Try.prog 6 [tv, sv, .int .u64 keeps].toArray F [] fun r H => r = .bool true ∧ H = [] := by
  obtain ⟨oa, oc, rfl, hrows⟩ := ht
  obtain ⟨pa, pc, rfl, hsteps⟩ := hs
  refine Spec.enter (n := 121) Try.func6 ok_law04_LogAnews rfl (by simp) ?_
  unfold ec_law04_LogAnews
  simp only [argFr, Nat.reduceAdd]
  (repeat (first | (apply Ops.q; rfl; rfl) | (apply Ops.gyB; rfl; rfl) | (apply Ops.gnB; rfl; decide) | (apply Ops.add; rfl; rfl; (constructor <;> omega)) | (apply Ops.sub; rfl; rfl; (constructor <;> omega)) | (apply Ops.rem; rfl; rfl; omega; omega) | (apply Ops.quo; rfl; rfl; (constructor <;> omega); omega) | (apply Ops.ld; rfl; (first | exact m0 | exact m1 | exact m2 | exact m3 | exact m4 | exact m5 | exact m6); rfl) | (apply Ops.st0; rfl; rfl; rfl; rfl; (first | exact u0 | exact u1 | exact u2 | exact u3 | exact u4 | exact u5); focus (simp; done)) | refine Ops.nil ?_ | refine Segs.nil ?_ | (apply Segs.oneS; rfl) | refine Run.seq ?_ | refine Run.reg ?_ | refine Run.block ?_ | refine Run.blk ?_ | refine Run.skip ?_))
  refine Ops.call1 rfl .nil (fun F' _ _ => law_alive F') ?_
  rintro v G ⟨rfl, rfl⟩
  simp only [List.nil_append]
  (repeat (first | (apply Ops.q; rfl; rfl) | (apply Ops.gyB; rfl; rfl) | (apply Ops.gnB; rfl; decide) | (apply Ops.add; rfl; rfl; (constructor <;> omega)) | (apply Ops.sub; rfl; rfl; (constructor <;> omega)) | (apply Ops.rem; rfl; rfl; omega; omega) | (apply Ops.quo; rfl; rfl; (constructor <;> omega); omega) | (apply Ops.ld; rfl; (first | exact m0 | exact m1 | exact m2 | exact m3 | exact m4 | exact m5 | exact m6); rfl) | (apply Ops.st0; rfl; rfl; rfl; rfl; (first | exact u0 | exact u1 | exact u2 | exact u3 | exact u4 | exact u5); focus (simp; done)) | refine Ops.nil ?_ | refine Segs.nil ?_ | (apply Segs.oneS; rfl) | refine Run.seq ?_ | refine Run.reg ?_ | refine Run.block ?_ | refine Run.blk ?_ | refine Run.skip ?_))
  refine Run.condF rfl ?_
  (repeat (first | (apply Ops.q; rfl; rfl) | (apply Ops.gyB; rfl; rfl) | (apply Ops.gnB; rfl; decide) | (apply Ops.add; rfl; rfl; (constructor <;> omega)) | (apply Ops.sub; rfl; rfl; (constructor <;> omega)) | (apply Ops.rem; rfl; rfl; omega; omega) | (apply Ops.quo; rfl; rfl; (constructor <;> omega); omega) | (apply Ops.ld; rfl; (first | exact m0 | exact m1 | exact m2 | exact m3 | exact m4 | exact m5 | exact m6); rfl) | (apply Ops.st0; rfl; rfl; rfl; rfl; (first | exact u0 | exact u1 | exact u2 | exact u3 | exact u4 | exact u5); focus (simp; done)) | refine Ops.nil ?_ | refine Segs.nil ?_ | (apply Segs.oneS; rfl) | refine Run.seq ?_ | refine Run.reg ?_ | refine Run.block ?_ | refine Run.blk ?_ | refine Run.skip ?_))
  by_cases h30 : 30 < times.length
  · have e1 : decide ((30 : Int) < (times.length : Int)) = true := by simp; omega
    simp only [e1]
    (repeat (first | (apply Ops.q; rfl; rfl) | (apply Ops.gyB; rfl; rfl) | (apply Ops.gnB; rfl; decide) | (apply Ops.add; rfl; rfl; (constructor <;> omega)) | (apply Ops.sub; rfl; rfl; (constructor <;> omega)) | (apply Ops.rem; rfl; rfl; omega; omega) | (apply Ops.quo; rfl; rfl; (constructor <;> omega); omega) | (apply Ops.ld; rfl; (first | exact m0 | exact m1 | exact m2 | exact m3 | exact m4 | exact m5 | exact m6); rfl) | (apply Ops.st0; rfl; rfl; rfl; rfl; (first | exact u0 | exact u1 | exact u2 | exact u3 | exact u4 | exact u5); focus (simp; done)) | refine Ops.nil ?_ | refine Segs.nil ?_ | (apply Segs.oneS; rfl) | refine Run.seq ?_ | refine Run.reg ?_ | refine Run.block ?_ | refine Run.blk ?_ | refine Run.skip ?_))
    refine Run.condT rfl ?_
    (repeat (first | (apply Ops.q; rfl; rfl) | (apply Ops.gyB; rfl; rfl) | (apply Ops.gnB; rfl; decide) | (apply Ops.add; rfl; rfl; (constructor <;> omega)) | (apply Ops.sub; rfl; rfl; (constructor <;> omega)) | (apply Ops.rem; rfl; rfl; omega; omega) | (apply Ops.quo; rfl; rfl; (constructor <;> omega); omega) | (apply Ops.ld; rfl; (first | exact m0 | exact m1 | exact m2 | exact m3 | exact m4 | exact m5 | exact m6); rfl) | (apply Ops.st0; rfl; rfl; rfl; rfl; (first | exact u0 | exact u1 | exact u2 | exact u3 | exact u4 | exact u5); focus (simp; done)) | refine Ops.nil ?_ | refine Segs.nil ?_ | (apply Segs.oneS; rfl) | refine Run.seq ?_ | refine Run.reg ?_ | refine Run.block ?_ | refine Run.blk ?_ | refine Run.skip ?_))
    exact Run.ret1 Try.func6 rfl rfl (fun h q => q) ⟨rfl, rfl⟩
  have e1 : decide ((30 : Int) < (times.length : Int)) = false := by simp; omega
  simp only [e1]
  (repeat (first | (apply Ops.q; rfl; rfl) | (apply Ops.gyB; rfl; rfl) | (apply Ops.gnB; rfl; decide) | (apply Ops.add; rfl; rfl; (constructor <;> omega)) | (apply Ops.sub; rfl; rfl; (constructor <;> omega)) | (apply Ops.rem; rfl; rfl; omega; omega) | (apply Ops.quo; rfl; rfl; (constructor <;> omega); omega) | (apply Ops.ld; rfl; (first | exact m0 | exact m1 | exact m2 | exact m3 | exact m4 | exact m5 | exact m6); rfl) | (apply Ops.st0; rfl; rfl; rfl; rfl; (first | exact u0 | exact u1 | exact u2 | exact u3 | exact u4 | exact u5); focus (simp; done)) | refine Ops.nil ?_ | refine Segs.nil ?_ | (apply Segs.oneS; rfl) | refine Run.seq ?_ | refine Run.reg ?_ | refine Run.block ?_ | refine Run.blk ?_ | refine Run.skip ?_))
  refine Run.condD rfl (fun hbig => ?_) (fun hsm => ?_)
  · (repeat (first | (apply Ops.q; rfl; rfl) | (apply Ops.gyB; rfl; rfl) | (apply Ops.gnB; rfl; decide) | (apply Ops.add; rfl; rfl; (constructor <;> omega)) | (apply Ops.sub; rfl; rfl; (constructor <;> omega)) | (apply Ops.rem; rfl; rfl; omega; omega) | (apply Ops.quo; rfl; rfl; (constructor <;> omega); omega) | (apply Ops.ld; rfl; (first | exact m0 | exact m1 | exact m2 | exact m3 | exact m4 | exact m5 | exact m6); rfl) | (apply Ops.st0; rfl; rfl; rfl; rfl; (first | exact u0 | exact u1 | exact u2 | exact u3 | exact u4 | exact u5); focus (simp; done)) | refine Ops.nil ?_ | refine Segs.nil ?_ | (apply Segs.oneS; rfl) | refine Run.seq ?_ | refine Run.reg ?_ | refine Run.block ?_ | refine Run.blk ?_ | refine Run.skip ?_))
    exact Run.ret1 Try.func6 rfl rfl (fun h q => q) ⟨rfl, rfl⟩
  obtain ⟨L1, D1, ho1, hl1, ht1, hf1, hn1⟩ := new_open (n := 80) (by decide)
  have hok0 := new_ok (n := 80) (by decide)
  have hready0 : Ready (DiskS.new (80 : Int)) [] 1 := ⟨hok0.1, rfl, rfl, L1, D1, ho1, hl1, by omega, hn1⟩
  (repeat (first | (apply Ops.q; rfl; rfl) | (apply Ops.gyB; rfl; rfl) | (apply Ops.gnB; rfl; decide) | (apply Ops.add; rfl; rfl; (constructor <;> omega)) | (apply Ops.sub; rfl; rfl; (constructor <;> omega)) | (apply Ops.rem; rfl; rfl; omega; omega) | (apply Ops.quo; rfl; rfl; (constructor <;> omega); omega) | (apply Ops.ld; rfl; (first | exact m0 | exact m1 | exact m2 | exact m3 | exact m4 | exact m5 | exact m6); rfl) | (apply Ops.st0; rfl; rfl; rfl; rfl; (first | exact u0 | exact u1 | exact u2 | exact u3 | exact u4 | exact u5); focus (simp; done)) | refine Ops.nil ?_ | refine Segs.nil ?_ | (apply Segs.oneS; rfl) | refine Run.seq ?_ | refine Run.reg ?_ | refine Run.block ?_ | refine Run.blk ?_ | refine Run.skip ?_))
  refine Ops.call1 rfl .nil (fun F' _ _ => disk_New 80 (by decide) F') ?_
  rintro v G ⟨d, rfl, rfl⟩
  simp only [List.cons_append, List.nil_append]
  generalize DiskS.new (80 : Int) = D0 at *
  (repeat (first | (apply Ops.q; rfl; rfl) | (apply Ops.gyB; rfl; rfl) | (apply Ops.gnB; rfl; decide) | (apply Ops.add; rfl; rfl; (constructor <;> omega)) | (apply Ops.sub; rfl; rfl; (constructor <;> omega)) | (apply Ops.rem; rfl; rfl; omega; omega) | (apply Ops.quo; rfl; rfl; (constructor <;> omega); omega) | (apply Ops.ld; rfl; (first | exact m0 | exact m1 | exact m2 | exact m3 | exact m4 | exact m5 | exact m6); rfl) | (apply Ops.st0; rfl; rfl; rfl; rfl; (first | exact u0 | exact u1 | exact u2 | exact u3 | exact u4 | exact u5); focus (simp; done)) | refine Ops.nil ?_ | refine Segs.nil ?_ | (apply Segs.oneS; rfl) | refine Run.seq ?_ | refine Run.reg ?_ | refine Run.block ?_ | refine Run.blk ?_ | refine Run.skip ?_))
  refine Ops.lit [] rfl rfl fun bl => ?_
  (repeat (first | (apply Ops.q; rfl; rfl) | (apply Ops.gyB; rfl; rfl) | (apply Ops.gnB; rfl; decide) | (apply Ops.add; rfl; rfl; (constructor <;> omega)) | (apply Ops.sub; rfl; rfl; (constructor <;> omega)) | (apply Ops.rem; rfl; rfl; omega; omega) | (apply Ops.quo; rfl; rfl; (constructor <;> omega); omega) | (apply Ops.ld; rfl; (first | exact m0 | exact m1 | exact m2 | exact m3 | exact m4 | exact m5 | exact m6); rfl) | (apply Ops.st0; rfl; rfl; rfl; rfl; (first | exact u0 | exact u1 | exact u2 | exact u3 | exact u4 | exact u5); focus (simp; done)) | refine Ops.nil ?_ | refine Segs.nil ?_ | (apply Segs.oneS; rfl) | refine Run.seq ?_ | refine Run.reg ?_ | refine Run.block ?_ | refine Run.blk ?_ | refine Run.skip ?_))
  refine Run.loopI (ι := Nat × DiskS × List Bytes × Option Addr × Nat) (fun x => times.length - x.1)
    (fun x => x.1 ≤ times.length ∧ Ready x.2.1 x.2.2.1 (x.1 + 1) ∧ x.2.2.1.length ≤ 8 ∧ ∀ b ∈ x.2.2.1, b.length ≤ 100)
    (fun x => [(35, .int .i64 x.1), (34, .int .i64 times.length), (33, .slice oa times.length oc), (8, .slice x.2.2.2.1 x.2.2.1.length x.2.2.2.2), (7, .pointer (some ⟨d, 0, none⟩)), (1, .slice pa steps.length pc), (2, .int .u64 keeps)])
    (fun x => [grp (LstK (.slice x.2.2.2.1 x.2.2.1.length x.2.2.2.2) x.2.2.1), DiskP d x.2.1])
    (0, D0, [], some ⟨bl, 0, none⟩, 0) ⟨Nat.zero_le _, hready0, Nat.zero_le _, fun b hb => by cases hb⟩
    (.cons rfl (.cons rfl (.cons rfl (.cons rfl (.cons rfl (.cons rfl (.cons rfl .nil))))))) lst_nil ?_
  rintro ⟨i, D, held, ha, hc⟩ ⟨hi, hready, hh8, hh1⟩ ih
  try dsimp only at hi hready hh8 hh1 ih ⊢
  unfold ec_law04_LogAnews_L1
  (repeat (first | (apply Ops.q; rfl; rfl) | (apply Ops.gyB; rfl; rfl) | (apply Ops.gnB; rfl; decide) | (apply Ops.add; rfl; rfl; (constructor <;> omega)) | (apply Ops.sub; rfl; rfl; (constructor <;> omega)) | (apply Ops.rem; rfl; rfl; omega; omega) | (apply Ops.quo; rfl; rfl; (constructor <;> omega); omega) | (apply Ops.ld; rfl; (first | exact m0 | exact m1 | exact m2 | exact m3 | exact m4 | exact m5 | exact m6); rfl) | (apply Ops.st0; rfl; rfl; rfl; rfl; (first | exact u0 | exact u1 | exact u2 | exact u3 | exact u4 | exact u5); focus (simp; done)) | refine Ops.nil ?_ | refine Segs.nil ?_ | (apply Segs.oneS; rfl) | refine Run.seq ?_ | refine Run.reg ?_ | refine Run.block ?_ | refine Run.blk ?_ | refine Run.skip ?_))
  refine Run.condD rfl (fun hlt => ?_) (fun hge => ?_)
  case refine_2 =>
    refine Run.exit rfl ?_
    (repeat (first | (apply Ops.q; rfl; rfl) | (apply Ops.gyB; rfl; rfl) | (apply Ops.gnB; rfl; decide) | (apply Ops.add; rfl; rfl; (constructor <;> omega)) | (apply Ops.sub; rfl; rfl; (constructor <;> omega)) | (apply Ops.rem; rfl; rfl; omega; omega) | (apply Ops.quo; rfl; rfl; (constructor <;> omega); omega) | (apply Ops.ld; rfl; (first | exact m0 | exact m1 | exact m2 | exact m3 | exact m4 | exact m5 | exact m6); rfl) | (apply Ops.st0; rfl; rfl; rfl; rfl; (first | exact u0 | exact u1 | exact u2 | exact u3 | exact u4 | exact u5); focus (simp; done)) | refine Ops.nil ?_ | refine Segs.nil ?_ | (apply Segs.oneS; rfl) | refine Run.seq ?_ | refine Run.reg ?_ | refine Run.block ?_ | refine Run.blk ?_ | refine Run.skip ?_))
    exact Run.ret1 Try.func6 rfl rfl (fun h q => take_sub .nil h q) ⟨rfl, rfl⟩
  have h1 : i < times.length := by omega
  have h2 : i < steps.length := by omega
  have e2 : times[i]? = some times[i] := List.getElem?_eq_getElem h1
  have e3 : steps[i]? = some steps[i] := List.getElem?_eq_getElem h2
  generalize times[i] = rows at *
  generalize steps[i] = sn at *
  rcases hrows with hrows | ⟨ob, oo, La, T, fz, rfl, hF, hlen, hq⟩
  · rw [hrows] at h1; simp at h1
  rcases hsteps with hsteps | ⟨pb, po, Pa, T2, fz2, rfl, hF2, hlen2, hq2⟩
  · rw [hsteps] at h2; simp at h2
  obtain ⟨v, hcs, hrb⟩ := hq i rows e2
  have hcs2 : (Pa.drop (po + i * 1)).take 1 = [.int .i64 sn] := hq2 i sn e3
  rw [Nat.mul_one] at hcs hcs2
  have hrb2 := hrb
  obtain ⟨ra, rc, rfl, hrr⟩ := hrb2
  (repeat (first | (apply Ops.q; rfl; rfl) | (apply Ops.gyB; rfl; rfl) | (apply Ops.gnB; rfl; decide) | (apply Ops.add; rfl; rfl; (constructor <;> omega)) | (apply Ops.sub; rfl; rfl; (constructor <;> omega)) | (apply Ops.rem; rfl; rfl; omega; omega) | (apply Ops.quo; rfl; rfl; (constructor <;> omega); omega) | (apply Ops.ld; rfl; (first | exact m0 | exact m1 | exact m2 | exact m3 | exact m4 | exact m5 | exact m6); rfl) | (apply Ops.st0; rfl; rfl; rfl; rfl; (first | exact u0 | exact u1 | exact u2 | exact u3 | exact u4 | exact u5); focus (simp; done)) | refine Ops.nil ?_ | refine Segs.nil ?_ | (apply Segs.oneS; rfl) | refine Run.seq ?_ | refine Run.reg ?_ | refine Run.block ?_ | refine Run.blk ?_ | refine Run.skip ?_))
  refine Ops.ixS rfl rfl ⟨by omega, by omega⟩ ?_
  refine Ops.ldF rfl hF (by rw [Int.toNat_natCast, Nat.mul_one]; exact one_at hcs) ?_
  (repeat (first | (apply Ops.q; rfl; rfl) | (apply Ops.gyB; rfl; rfl) | (apply Ops.gnB; rfl; decide) | (apply Ops.add; rfl; rfl; (constructor <;> omega)) | (apply Ops.sub; rfl; rfl; (constructor <;> omega)) | (apply Ops.rem; rfl; rfl; omega; omega) | (apply Ops.quo; rfl; rfl; (constructor <;> omega); omega) | (apply Ops.ld; rfl; (first | exact m0 | exact m1 | exact m2 | exact m3 | exact m4 | exact m5 | exact m6); rfl) | (apply Ops.st0; rfl; rfl; rfl; rfl; (first | exact u0 | exact u1 | exact u2 | exact u3 | exact u4 | exact u5); focus (simp; done)) | refine Ops.nil ?_ | refine Segs.nil ?_ | (apply Segs.oneS; rfl) | refine Run.seq ?_ | refine Run.reg ?_ | refine Run.block ?_ | refine Run.blk ?_ | refine Run.skip ?_))
  refine Run.condD rfl (fun h3 => ?_) (fun h3 => ?_)
  · refine Run.exit rfl ?_
    (repeat (first | (apply Ops.q; rfl; rfl) | (apply Ops.gyB; rfl; rfl) | (apply Ops.gnB; rfl; decide) | (apply Ops.add; rfl; rfl; (constructor <;> omega)) | (apply Ops.sub; rfl; rfl; (constructor <;> omega)) | (apply Ops.rem; rfl; rfl; omega; omega) | (apply Ops.quo; rfl; rfl; (constructor <;> omega); omega) | (apply Ops.ld; rfl; (first | exact m0 | exact m1 | exact m2 | exact m3 | exact m4 | exact m5 | exact m6); rfl) | (apply Ops.st0; rfl; rfl; rfl; rfl; (first | exact u0 | exact u1 | exact u2 | exact u3 | exact u4 | exact u5); focus (simp; done)) | refine Ops.nil ?_ | refine Segs.nil ?_ | (apply Segs.oneS; rfl) | refine Run.seq ?_ | refine Run.reg ?_ | refine Run.block ?_ | refine Run.blk ?_ | refine Run.skip ?_))
    refine Run.lp (Run.again (ih (i + 1, D, held, ha, hc) (by dsimp only; omega) ⟨by dsimp only; omega, ?_, hh8, hh1⟩) (.cons rfl (.cons rfl (.cons rfl (.cons rfl (.cons rfl (.cons rfl (.cons rfl .nil))))))) (fun h q => q))
    obtain ⟨g1, g2, g3, L, D', g4, g5, g6, g7⟩ := hready
    exact ⟨g1, g2, g3, L, D', g4, g5, by dsimp only at g6 ⊢; omega, g7⟩
  (repeat (first | (apply Ops.q; rfl; rfl) | (apply Ops.gyB; rfl; rfl) | (apply Ops.gnB; rfl; decide) | (apply Ops.add; rfl; rfl; (constructor <;> omega)) | (apply Ops.sub; rfl; rfl; (constructor <;> omega)) | (apply Ops.rem; rfl; rfl; omega; omega) | (apply Ops.quo; rfl; rfl; (constructor <;> omega); omega) | (apply Ops.ld; rfl; (first | exact m0 | exact m1 | exact m2 | exact m3 | exact m4 | exact m5 | exact m6); rfl) | (apply Ops.st0; rfl; rfl; rfl; rfl; (first | exact u0 | exact u1 | exact u2 | exact u3 | exact u4 | exact u5); focus (simp; done)) | refine Ops.nil ?_ | refine Segs.nil ?_ | (apply Segs.oneS; rfl) | refine Run.seq ?_ | refine Run.reg ?_ | refine Run.block ?_ | refine Run.blk ?_ | refine Run.skip ?_))
  refine Run.loopI (ι := Nat) (fun x => rows.length - x) (fun x => x ≤ rows.length ∧ ∀ j b, j < x → rows[j]? = some b → b.length ≤ 100)
    (fun x => [(45, .int .i64 x), (44, .int .i64 rows.length), (43, .slice ra rows.length rc), (10, .slice ra rows.length rc), (9, .int .i64 i), (35, .int .i64 i), (34, .int .i64 times.length), (33, .slice (some ⟨ob, oo, none⟩) times.length oc), (8, .slice ha held.length hc), (7, .pointer (some ⟨d, 0, none⟩)), (1, .slice (some ⟨pb, po, none⟩) steps.length pc), (2, .int .u64 keeps)])
    (fun _ => [grp (LstK (.slice ha held.length hc) held), DiskP d D]) 0 ⟨Nat.zero_le _, fun j b h => by omega⟩
    (.cons rfl (.cons rfl (.cons rfl (.cons rfl (.cons rfl (.cons rfl (.cons rfl (.cons rfl (.cons rfl (.cons rfl (.cons rfl (.cons rfl .nil)))))))))))) (fun _ h => h) ?_
  rintro j ⟨hj, hall⟩ ih2
  try dsimp only at hj hall ih2 ⊢
  unfold ec_law04_LogAnews_L0
  (repeat (first | (apply Ops.q; rfl; rfl) | (apply Ops.gyB; rfl; rfl) | (apply Ops.gnB; rfl; decide) | (apply Ops.add; rfl; rfl; (constructor <;> omega)) | (apply Ops.sub; rfl; rfl; (constructor <;> omega)) | (apply Ops.rem; rfl; rfl; omega; omega) | (apply Ops.quo; rfl; rfl; (constructor <;> omega); omega) | (apply Ops.ld; rfl; (first | exact m0 | exact m1 | exact m2 | exact m3 | exact m4 | exact m5 | exact m6); rfl) | (apply Ops.st0; rfl; rfl; rfl; rfl; (first | exact u0 | exact u1 | exact u2 | exact u3 | exact u4 | exact u5); focus (simp; done)) | refine Ops.nil ?_ | refine Segs.nil ?_ | (apply Segs.oneS; rfl) | refine Run.seq ?_ | refine Run.reg ?_ | refine Run.block ?_ | refine Run.blk ?_ | refine Run.skip ?_))
  refine Run.condD rfl (fun hlt2 => ?_) (fun hge2 => ?_)
  · have hj1 : j < rows.length := by omega
    have e4 : rows[j]? = some rows[j] := List.getElem?_eq_getElem hj1
    generalize rows[j] = b at *
    rcases hrr with hrr | ⟨rb, ro, Lr, T3, fz3, rfl, hF3, hlen3, hq3⟩
    · rw [hrr] at hj1; simp at hj1
    obtain ⟨v, hcs3, hrb3⟩ := hq3 j b e4
    obtain ⟨ba, bc, rfl, _⟩ := hrb3
    (repeat (first | (apply Ops.q; rfl; rfl) | (apply Ops.gyB; rfl; rfl) | (apply Ops.gnB; rfl; decide) | (apply Ops.add; rfl; rfl; (constructor <;> omega)) | (apply Ops.sub; rfl; rfl; (constructor <;> omega)) | (apply Ops.rem; rfl; rfl; omega; omega) | (apply Ops.quo; rfl; rfl; (constructor <;> omega); omega) | (apply Ops.ld; rfl; (first | exact m0 | exact m1 | exact m2 | exact m3 | exact m4 | exact m5 | exact m6); rfl) | (apply Ops.st0; rfl; rfl; rfl; rfl; (first | exact u0 | exact u1 | exact u2 | exact u3 | exact u4 | exact u5); focus (simp; done)) | refine Ops.nil ?_ | refine Segs.nil ?_ | (apply Segs.oneS; rfl) | refine Run.seq ?_ | refine Run.reg ?_ | refine Run.block ?_ | refine Run.blk ?_ | refine Run.skip ?_))
    refine Ops.ixS rfl rfl ⟨by omega, by omega⟩ ?_
    refine Ops.ldF rfl hF3 (by rw [Int.toNat_natCast, Nat.mul_one]; exact hcs3) ?_
    (repeat (first | (apply Ops.q; rfl; rfl) | (apply Ops.gyB; rfl; rfl) | (apply Ops.gnB; rfl; decide) | (apply Ops.add; rfl; rfl; (constructor <;> omega)) | (apply Ops.sub; rfl; rfl; (constructor <;> omega)) | (apply Ops.rem; rfl; rfl; omega; omega) | (apply Ops.quo; rfl; rfl; (constructor <;> omega); omega) | (apply Ops.ld; rfl; (first | exact m0 | exact m1 | exact m2 | exact m3 | exact m4 | exact m5 | exact m6); rfl) | (apply Ops.st0; rfl; rfl; rfl; rfl; (first | exact u0 | exact u1 | exact u2 | exact u3 | exact u4 | exact u5); focus (simp; done)) | refine Ops.nil ?_ | refine Segs.nil ?_ | (apply Segs.oneS; rfl) | refine Run.seq ?_ | refine Run.reg ?_ | refine Run.block ?_ | refine Run.blk ?_ | refine Run.skip ?_))
    refine Run.condD rfl (fun h4 => ?_) (fun h4 => ?_)
    · (repeat (first | (apply Ops.q; rfl; rfl) | (apply Ops.gyB; rfl; rfl) | (apply Ops.gnB; rfl; decide) | (apply Ops.add; rfl; rfl; (constructor <;> omega)) | (apply Ops.sub; rfl; rfl; (constructor <;> omega)) | (apply Ops.rem; rfl; rfl; omega; omega) | (apply Ops.quo; rfl; rfl; (constructor <;> omega); omega) | (apply Ops.ld; rfl; (first | exact m0 | exact m1 | exact m2 | exact m3 | exact m4 | exact m5 | exact m6); rfl) | (apply Ops.st0; rfl; rfl; rfl; rfl; (first | exact u0 | exact u1 | exact u2 | exact u3 | exact u4 | exact u5); focus (simp; done)) | refine Ops.nil ?_ | refine Segs.nil ?_ | (apply Segs.oneS; rfl) | refine Run.seq ?_ | refine Run.reg ?_ | refine Run.block ?_ | refine Run.blk ?_ | refine Run.skip ?_))
      exact Run.ret1 Try.func6 rfl rfl (fun h q => take_sub .nil h q) ⟨rfl, rfl⟩
    · (repeat (first | (apply Ops.q; rfl; rfl) | (apply Ops.gyB; rfl; rfl) | (apply Ops.gnB; rfl; decide) | (apply Ops.add; rfl; rfl; (constructor <;> omega)) | (apply Ops.sub; rfl; rfl; (constructor <;> omega)) | (apply Ops.rem; rfl; rfl; omega; omega) | (apply Ops.quo; rfl; rfl; (constructor <;> omega); omega) | (apply Ops.ld; rfl; (first | exact m0 | exact m1 | exact m2 | exact m3 | exact m4 | exact m5 | exact m6); rfl) | (apply Ops.st0; rfl; rfl; rfl; rfl; (first | exact u0 | exact u1 | exact u2 | exact u3 | exact u4 | exact u5); focus (simp; done)) | refine Ops.nil ?_ | refine Segs.nil ?_ | (apply Segs.oneS; rfl) | refine Run.seq ?_ | refine Run.reg ?_ | refine Run.block ?_ | refine Run.blk ?_ | refine Run.skip ?_))
      refine Run.lp (Run.again (ih2 (j + 1) (by omega) ⟨by omega, fun j' b' hj' hb' => ?_⟩) (.cons rfl (.cons rfl (.cons rfl (.cons rfl (.cons rfl (.cons rfl (.cons rfl (.cons rfl (.cons rfl (.cons rfl (.cons rfl (.cons rfl .nil)))))))))))) (fun h q => q))
      by_cases hjj : j' = j
      · subst hjj; rw [e4] at hb'; cases hb'; omega
      · exact hall j' b' (by omega) hb'
  refine Run.exit rfl ?_
  clear ih2
  have hr1 : ∀ b ∈ rows, b.length ≤ 100 := fun b hb => by
    obtain ⟨j', hj'⟩ := List.getElem?_of_mem hb
    have : j' < rows.length := by
      rcases Nat.lt_or_ge j' rows.length with h | h
      · exact h
      · rw [List.getElem?_eq_none h] at hj'; cases hj'
    exact hall j' b (by omega) hj'
  clear hall
  obtain ⟨g1, g2, g3, L, D', ho, hl, htop, hk80⟩ := hready
  have hls := hl.list
  (repeat (first | (apply Ops.q; rfl; rfl) | (apply Ops.gyB; rfl; rfl) | (apply Ops.gnB; rfl; decide) | (apply Ops.add; rfl; rfl; (constructor <;> omega)) | (apply Ops.sub; rfl; rfl; (constructor <;> omega)) | (apply Ops.rem; rfl; rfl; omega; omega) | (apply Ops.quo; rfl; rfl; (constructor <;> omega); omega) | (apply Ops.ld; rfl; (first | exact m0 | exact m1 | exact m2 | exact m3 | exact m4 | exact m5 | exact m6); rfl) | (apply Ops.st0; rfl; rfl; rfl; rfl; (first | exact u0 | exact u1 | exact u2 | exact u3 | exact u4 | exact u5); focus (simp; done)) | refine Ops.nil ?_ | refine Segs.nil ?_ | (apply Segs.oneS; rfl) | refine Run.seq ?_ | refine Run.reg ?_ | refine Run.block ?_ | refine Run.blk ?_ | refine Run.skip ?_))
  refine Ops.call1 rfl (.cons s1 .nil) (fun F' _ _ => log_Open d D g1 g2 (by rw [g3]; decide) F') ?_
  intro v G hv
  rw [ho] at hv
  obtain ⟨l, rfl, rfl⟩ := hv
  simp only [List.cons_append, List.nil_append]
  (repeat (first | (apply Ops.q; rfl; rfl) | (apply Ops.gyB; rfl; rfl) | (apply Ops.gnB; rfl; decide) | (apply Ops.add; rfl; rfl; (constructor <;> omega)) | (apply Ops.sub; rfl; rfl; (constructor <;> omega)) | (apply Ops.rem; rfl; rfl; omega; omega) | (apply Ops.quo; rfl; rfl; (constructor <;> omega); omega)))
  refine Ops.nil (Segs.nil (Run.conseq (fun h q => (take_sub (.cons s2 (.cons s0 (.cons s0 .nil))) h q : seps [grp (LstK (.slice ha held.length hc) held), LogP l d L, DiskP d D'] h)) (Run.open_ s0 fun G hG => ?_)))
  refine Run.seq (Run.seq (Run.reg (Segs.lend G (take_app G _) fun F1 x1 k1 => ?_)))
  (repeat (first | (apply Ops.q; rfl; rfl) | (apply Ops.gyB; rfl; rfl) | (apply Ops.gnB; rfl; decide) | (apply Ops.add; rfl; rfl; (constructor <;> omega)) | (apply Ops.sub; rfl; rfl; (constructor <;> omega)) | (apply Ops.rem; rfl; rfl; omega; omega) | (apply Ops.quo; rfl; rfl; (constructor <;> omega); omega) | (apply Ops.ld; rfl; (first | exact m0 | exact m1 | exact m2 | exact m3 | exact m4 | exact m5 | exact m6); rfl) | (apply Ops.st0; rfl; rfl; rfl; rfl; (first | exact u0 | exact u1 | exact u2 | exact u3 | exact u4 | exact u5); focus (simp; done)) | refine Ops.nil ?_ | refine Segs.nil ?_ | (apply Segs.oneS; rfl) | refine Run.seq ?_ | refine Run.reg ?_ | refine Run.block ?_ | refine Run.blk ?_ | refine Run.skip ?_))
  refine Ops.call1 rfl (.cons s0 .nil) (fun F' _ _ => log_List l d L (by rw [hls]; omega) (by rw [hls]; exact fun b hb => by have := hh1 b hb; omega) F') ?_
  rintro v G' ⟨xa, xc, rfl, rfl⟩
  rw [hls]
  simp only [List.cons_append, List.nil_append]
  (repeat (first | (apply Ops.q; rfl; rfl) | (apply Ops.gyB; rfl; rfl) | (apply Ops.gnB; rfl; decide) | (apply Ops.add; rfl; rfl; (constructor <;> omega)) | (apply Ops.sub; rfl; rfl; (constructor <;> omega)) | (apply Ops.rem; rfl; rfl; omega; omega) | (apply Ops.quo; rfl; rfl; (constructor <;> omega); omega) | (apply Ops.ld; rfl; (first | exact m0 | exact m1 | exact m2 | exact m3 | exact m4 | exact m5 | exact m6); rfl) | (apply Ops.st0; rfl; rfl; rfl; rfl; (first | exact u0 | exact u1 | exact u2 | exact u3 | exact u4 | exact u5); focus (simp; done)) | refine Ops.nil ?_ | refine Segs.nil ?_ | (apply Segs.oneS; rfl) | refine Run.seq ?_ | refine Run.reg ?_ | refine Run.block ?_ | refine Run.blk ?_ | refine Run.skip ?_))
  refine Ops.call1 rfl (.cons s0 .nil) (fun F' e _ => law_same_list _ _ held held F' ((hG.2 F1 k1).ext e) (by omega)) ?_
  rintro v G' ⟨rfl, rfl⟩
  rw [decide_eq_true (rfl : held = held)]
  simp only [List.nil_append]
  (repeat (first | (apply Ops.q; rfl; rfl) | (apply Ops.gyB; rfl; rfl) | (apply Ops.gnB; rfl; decide) | (apply Ops.add; rfl; rfl; (constructor <;> omega)) | (apply Ops.sub; rfl; rfl; (constructor <;> omega)) | (apply Ops.rem; rfl; rfl; omega; omega) | (apply Ops.quo; rfl; rfl; (constructor <;> omega); omega)))
  refine Ops.nil (Segs.nil ?_)
  clear k1 x1 F1
  refine Run.condF rfl ?_
  refine Run.skip ?_
  refine Run.seq (Run.reg (Segs.oneS rfl ?_))
  (repeat (first | (apply Ops.q; rfl; rfl) | (apply Ops.gyB; rfl; rfl) | (apply Ops.gnB; rfl; decide) | (apply Ops.add; rfl; rfl; (constructor <;> omega)) | (apply Ops.sub; rfl; rfl; (constructor <;> omega)) | (apply Ops.rem; rfl; rfl; omega; omega) | (apply Ops.quo; rfl; rfl; (constructor <;> omega); omega)))
  refine Ops.ixS rfl rfl ⟨by omega, by omega⟩ ?_
  (repeat (first | (apply Ops.q; rfl; rfl) | (apply Ops.gyB; rfl; rfl) | (apply Ops.gnB; rfl; decide) | (apply Ops.add; rfl; rfl; (constructor <;> omega)) | (apply Ops.sub; rfl; rfl; (constructor <;> omega)) | (apply Ops.rem; rfl; rfl; omega; omega) | (apply Ops.quo; rfl; rfl; (constructor <;> omega); omega)))
  refine Ops.and64 (a := i) (b := 31) rfl rfl rfl rfl (by omega) (by decide) ?_
  refine Ops.shr (j := i &&& 31) rfl rfl rfl (by have := @Nat.and_le_right i 31; simp [IntKind.bits]; omega) ?_
  refine Ops.ldF rfl hF2 (by rw [Int.toNat_natCast, Nat.mul_one]; exact one_at hcs2) ?_
  (repeat (first | (apply Ops.q; rfl; rfl) | (apply Ops.gyB; rfl; rfl) | (apply Ops.gnB; rfl; decide) | (apply Ops.add; rfl; rfl; (constructor <;> omega)) | (apply Ops.sub; rfl; rfl; (constructor <;> omega)) | (apply Ops.rem; rfl; rfl; omega; omega) | (apply Ops.quo; rfl; rfl; (constructor <;> omega); omega) | (apply Ops.ld; rfl; (first | exact m0 | exact m1 | exact m2 | exact m3 | exact m4 | exact m5 | exact m6); rfl) | (apply Ops.st0; rfl; rfl; rfl; rfl; (first | exact u0 | exact u1 | exact u2 | exact u3 | exact u4 | exact u5); focus (simp; done)) | refine Ops.nil ?_ | refine Segs.nil ?_ | (apply Segs.oneS; rfl) | refine Run.seq ?_ | refine Run.reg ?_ | refine Run.block ?_ | refine Run.blk ?_ | refine Run.skip ?_))
  refine Ops.mask 31 rfl rfl (by decide) fun m hm => ?_
  (repeat (first | (apply Ops.q; rfl; rfl) | (apply Ops.gyB; rfl; rfl) | (apply Ops.gnB; rfl; decide) | (apply Ops.add; rfl; rfl; (constructor <;> omega)) | (apply Ops.sub; rfl; rfl; (constructor <;> omega)) | (apply Ops.rem; rfl; rfl; omega; omega) | (apply Ops.quo; rfl; rfl; (constructor <;> omega); omega) | (apply Ops.ld; rfl; (first | exact m0 | exact m1 | exact m2 | exact m3 | exact m4 | exact m5 | exact m6); rfl) | (apply Ops.st0; rfl; rfl; rfl; rfl; (first | exact u0 | exact u1 | exact u2 | exact u3 | exact u4 | exact u5); focus (simp; done)) | refine Ops.nil ?_ | refine Segs.nil ?_ | (apply Segs.oneS; rfl) | refine Run.seq ?_ | refine Run.reg ?_ | refine Run.block ?_ | refine Run.blk ?_ | refine Run.skip ?_))
  have hks : ∀ j, keeps >>> j < 2 ^ 64 := fun j => Nat.lt_of_le_of_lt (Nat.shiftRight_le _ _) hkp
  have hlp : Held L (D'.plan (1 + m) (keeps >>> (i &&& 31))) held := hl.plan (by omega) (hks _)
  have hkp80 : (D'.plan (1 + m) (keeps >>> (i &&& 31))).kept.length = 80 := hk80
  refine Ops.callE [DiskP d D'] ([LogP l d L] ++ G) rfl (fun h q => ?_) (fun F' _ _ => disk_Plan d D' (1 + m) (keeps >>> (i &&& 31)) (hks _) (by omega) F') ?_
  · have := seps_comm h q
    exact take_sub (.cons s1 (.cons s0 (take_all G))) h this
  rintro v G' ⟨rfl, rfl⟩
  simp only [List.cons_append, List.nil_append]
  generalize D'.plan (1 + m) (keeps >>> (i &&& 31)) = D2 at *
  (repeat (first | (apply Ops.q; rfl; rfl) | (apply Ops.gyB; rfl; rfl) | (apply Ops.gnB; rfl; decide) | (apply Ops.add; rfl; rfl; (constructor <;> omega)) | (apply Ops.sub; rfl; rfl; (constructor <;> omega)) | (apply Ops.rem; rfl; rfl; omega; omega) | (apply Ops.quo; rfl; rfl; (constructor <;> omega); omega) | (apply Ops.ld; rfl; (first | exact m0 | exact m1 | exact m2 | exact m3 | exact m4 | exact m5 | exact m6); rfl) | (apply Ops.st0; rfl; rfl; rfl; rfl; (first | exact u0 | exact u1 | exact u2 | exact u3 | exact u4 | exact u5); focus (simp; done)) | refine Ops.nil ?_ | refine Segs.nil ?_ | (apply Segs.oneS; rfl) | refine Run.seq ?_ | refine Run.reg ?_ | refine Run.block ?_ | refine Run.blk ?_ | refine Run.skip ?_))
  have hok2 := hlp.ok
  refine Ops.call1 rfl (.cons s1 (.cons s0 .nil)) (fun F' e kn => log_Rewrite l d L D2 hok2 (by rw [hlp.cache]; decide) _ rows (by omega) F' (hrb.ext e)) ?_
  rintro v G' ⟨rfl, rfl⟩
  simp only [List.cons_append, List.nil_append]
  obtain ⟨l', hres, hready2⟩ := anew_bears hlp hkp80 (by omega) (by omega) hr1 (keeps >>> (i &&& 15))
  generalize L.rewrite D2 rows = r1 at *
  obtain ⟨e5, L2, D3⟩ := r1
  dsimp only at *
  (repeat (first | (apply Ops.q; rfl; rfl) | (apply Ops.gyB; rfl; rfl) | (apply Ops.gnB; rfl; decide) | (apply Ops.add; rfl; rfl; (constructor <;> omega)) | (apply Ops.sub; rfl; rfl; (constructor <;> omega)) | (apply Ops.rem; rfl; rfl; omega; omega) | (apply Ops.quo; rfl; rfl; (constructor <;> omega); omega) | (apply Ops.ld; rfl; (first | exact m0 | exact m1 | exact m2 | exact m3 | exact m4 | exact m5 | exact m6); rfl) | (apply Ops.st0; rfl; rfl; rfl; rfl; (first | exact u0 | exact u1 | exact u2 | exact u3 | exact u4 | exact u5); focus (simp; done)) | refine Ops.nil ?_ | refine Segs.nil ?_ | (apply Segs.oneS; rfl) | refine Run.seq ?_ | refine Run.reg ?_ | refine Run.block ?_ | refine Run.blk ?_ | refine Run.skip ?_))
  refine Ops.and64 (a := i) (b := 15) rfl rfl rfl rfl (by omega) (by decide) ?_
  refine Ops.shr (j := i &&& 15) rfl rfl rfl (by have := @Nat.and_le_right i 15; simp [IntKind.bits]; omega) ?_
  refine Ops.call1 rfl (.cons s1 .nil) (fun F' e kn => crash_any d D3 (keeps >>> (i &&& 15)) (hks _) F') ?_
  rintro v G' ⟨rfl, rfl⟩
  simp only [List.cons_append, List.nil_append]
  generalize D3.crash (keeps >>> (i &&& 15)) = D4 at *
  (repeat (first | (apply Ops.q; rfl; rfl) | (apply Ops.gyB; rfl; rfl) | (apply Ops.gnB; rfl; decide) | (apply Ops.add; rfl; rfl; (constructor <;> omega)) | (apply Ops.sub; rfl; rfl; (constructor <;> omega)) | (apply Ops.rem; rfl; rfl; omega; omega) | (apply Ops.quo; rfl; rfl; (constructor <;> omega); omega) | (apply Ops.ld; rfl; (first | exact m0 | exact m1 | exact m2 | exact m3 | exact m4 | exact m5 | exact m6); rfl) | (apply Ops.st0; rfl; rfl; rfl; rfl; (first | exact u0 | exact u1 | exact u2 | exact u3 | exact u4 | exact u5); focus (simp; done)) | refine Ops.nil ?_ | refine Segs.nil ?_ | (apply Segs.oneS; rfl) | refine Run.seq ?_ | refine Run.reg ?_ | refine Run.block ?_ | refine Run.blk ?_ | refine Run.skip ?_))
  refine Ops.call1 rfl (.cons s0 .nil) (fun F' e kn => disk_On d D4 F') ?_
  rintro v G' ⟨rfl, rfl⟩
  simp only [List.cons_append, List.nil_append]
  generalize ({ D4 with down := false } : DiskS) = D5 at *
  obtain ⟨g1, g2, g3, L5, D6, ho5, hl5, htop5, hk5⟩ := hready2
  have hl8 : l'.length ≤ 8 ∧ ∀ b ∈ l', b.length ≤ 100 := by
    rcases hres with ⟨_, rfl⟩ | ⟨_, rfl | rfl⟩
    · exact ⟨by omega, hr1⟩
    · exact ⟨hh8, hh1⟩
    · exact ⟨by omega, hr1⟩
  have hls5 := hl5.list
  (repeat (first | (apply Ops.q; rfl; rfl) | (apply Ops.gyB; rfl; rfl) | (apply Ops.gnB; rfl; decide) | (apply Ops.add; rfl; rfl; (constructor <;> omega)) | (apply Ops.sub; rfl; rfl; (constructor <;> omega)) | (apply Ops.rem; rfl; rfl; omega; omega) | (apply Ops.quo; rfl; rfl; (constructor <;> omega); omega) | (apply Ops.ld; rfl; (first | exact m0 | exact m1 | exact m2 | exact m3 | exact m4 | exact m5 | exact m6); rfl) | (apply Ops.st0; rfl; rfl; rfl; rfl; (first | exact u0 | exact u1 | exact u2 | exact u3 | exact u4 | exact u5); focus (simp; done)) | refine Ops.nil ?_ | refine Segs.nil ?_ | (apply Segs.oneS; rfl) | refine Run.seq ?_ | refine Run.reg ?_ | refine Run.block ?_ | refine Run.blk ?_ | refine Run.skip ?_))
  refine Ops.call1 rfl (.cons s0 .nil) (fun F' _ _ => log_Open d D5 g1 g2 (by rw [g3]; decide) F') ?_
  intro v G' hv
  rw [ho5] at hv
  obtain ⟨m5, rfl, rfl⟩ := hv
  simp only [List.cons_append, List.nil_append]
  (repeat (first | (apply Ops.q; rfl; rfl) | (apply Ops.gyB; rfl; rfl) | (apply Ops.gnB; rfl; decide) | (apply Ops.add; rfl; rfl; (constructor <;> omega)) | (apply Ops.sub; rfl; rfl; (constructor <;> omega)) | (apply Ops.rem; rfl; rfl; omega; omega) | (apply Ops.quo; rfl; rfl; (constructor <;> omega); omega) | (apply Ops.ld; rfl; (first | exact m0 | exact m1 | exact m2 | exact m3 | exact m4 | exact m5 | exact m6); rfl) | (apply Ops.st0; rfl; rfl; rfl; rfl; (first | exact u0 | exact u1 | exact u2 | exact u3 | exact u4 | exact u5); focus (simp; done)) | refine Ops.nil ?_ | refine Segs.nil ?_ | (apply Segs.oneS; rfl) | refine Run.seq ?_ | refine Run.reg ?_ | refine Run.block ?_ | refine Run.blk ?_ | refine Run.skip ?_))
  refine Run.condF rfl ?_
  (repeat (first | (apply Ops.q; rfl; rfl) | (apply Ops.gyB; rfl; rfl) | (apply Ops.gnB; rfl; decide) | (apply Ops.add; rfl; rfl; (constructor <;> omega)) | (apply Ops.sub; rfl; rfl; (constructor <;> omega)) | (apply Ops.rem; rfl; rfl; omega; omega) | (apply Ops.quo; rfl; rfl; (constructor <;> omega); omega) | (apply Ops.ld; rfl; (first | exact m0 | exact m1 | exact m2 | exact m3 | exact m4 | exact m5 | exact m6); rfl) | (apply Ops.st0; rfl; rfl; rfl; rfl; (first | exact u0 | exact u1 | exact u2 | exact u3 | exact u4 | exact u5); focus (simp; done)) | refine Ops.nil ?_ | refine Segs.nil ?_ | (apply Segs.oneS; rfl) | refine Run.seq ?_ | refine Run.reg ?_ | refine Run.block ?_ | refine Run.blk ?_ | refine Run.skip ?_))
  refine Ops.call1 rfl (.cons s0 .nil) (fun F' _ _ => log_List m5 d L5 (by rw [hls5]; omega) (by rw [hls5]; exact fun b hb => by have := hl8.2 b hb; omega) F') ?_
  rintro v G' ⟨ya, yc, rfl, rfl⟩
  rw [hls5]
  simp only [List.cons_append, List.nil_append]
  (repeat (first | (apply Ops.q; rfl; rfl) | (apply Ops.gyB; rfl; rfl) | (apply Ops.gnB; rfl; decide) | (apply Ops.add; rfl; rfl; (constructor <;> omega)) | (apply Ops.sub; rfl; rfl; (constructor <;> omega)) | (apply Ops.rem; rfl; rfl; omega; omega) | (apply Ops.quo; rfl; rfl; (constructor <;> omega); omega)))
  refine Ops.nil (Segs.nil (Run.conseq lst_know (Run.open_ s0 fun G5 hG5 => ?_)))
  have hready3 : Ready D6 l' (i + 1 + 1) := ready_bears hl5.bears hl5.down hk5 |> fun ⟨q1, q2, q3, q4, q5, q6, q7, q8, q9⟩ => ⟨q1, q2, q3, q4, q5, q6, q7, by omega, q9⟩
  have hput : ∀ h, seps (G5 ++ (LogP m5 d L5 :: DiskP d D6 :: LogP l d L2 :: G)) h → seps ((G5 ++ G) ++ [LogP m5 d L5, DiskP d D6]) h := fun h q => by
    rw [List.append_assoc]
    exact seps_app (fun _ q => q) (fun h q => seps_app (B := [LogP m5 d L5, DiskP d D6, LogP l d L2]) (fun _ q => q) (fun h q => take_sub (.cons s0 (.cons s0 .nil)) h q) h (seps_comm (A := [LogP m5 d L5, DiskP d D6, LogP l d L2]) h q)) h q
  refine Run.conseq hput (Run.seq (Run.seq (Run.reg (Segs.lend (G5 ++ G) (take_app _ _) fun F1 x1 k1 => ?_))))
  have hb5 := hG5.2 F1 k1.left
  have hbh := hG.2 F1 k1.right
  (repeat (first | (apply Ops.q; rfl; rfl) | (apply Ops.gyB; rfl; rfl) | (apply Ops.gnB; rfl; decide) | (apply Ops.add; rfl; rfl; (constructor <;> omega)) | (apply Ops.sub; rfl; rfl; (constructor <;> omega)) | (apply Ops.rem; rfl; rfl; omega; omega) | (apply Ops.quo; rfl; rfl; (constructor <;> omega); omega)))
  refine Ops.via [(118, .bool false), (18, .slice ya l'.length yc), (35, .int .i64 i), (34, .int .i64 times.length), (33, .slice (some ⟨ob, oo, none⟩) times.length oc), (7, .pointer (some ⟨d, 0, none⟩)), (1, .slice (some ⟨pb, po, none⟩) steps.length pc), (2, .int .u64 keeps)] [LogP m5 d L5, DiskP d D6] (fun l2 hl2 => Segs.nil (Run.again (l' := [(118, .bool false), (18, .slice ya l'.length yc), (35, .int .i64 i), (34, .int .i64 times.length), (33, .slice (some ⟨ob, oo, none⟩) times.length oc), (7, .pointer (some ⟨d, 0, none⟩)), (1, .slice (some ⟨pb, po, none⟩) steps.length pc), (2, .int .u64 keeps)]) (H' := [grp (LstK (.slice ya l'.length yc) l'), DiskP d D6]) ?_ hl2 fun h q => ?_)) ?_
  · refine Run.condF rfl ?_
    (repeat (first | (apply Ops.q; rfl; rfl) | (apply Ops.gyB; rfl; rfl) | (apply Ops.gnB; rfl; decide) | (apply Ops.add; rfl; rfl; (constructor <;> omega)) | (apply Ops.sub; rfl; rfl; (constructor <;> omega)) | (apply Ops.rem; rfl; rfl; omega; omega) | (apply Ops.quo; rfl; rfl; (constructor <;> omega); omega) | (apply Ops.ld; rfl; (first | exact m0 | exact m1 | exact m2 | exact m3 | exact m4 | exact m5 | exact m6); rfl) | (apply Ops.st0; rfl; rfl; rfl; rfl; (first | exact u0 | exact u1 | exact u2 | exact u3 | exact u4 | exact u5); focus (simp; done)) | refine Ops.nil ?_ | refine Segs.nil ?_ | (apply Segs.oneS; rfl) | refine Run.seq ?_ | refine Run.reg ?_ | refine Run.block ?_ | refine Run.blk ?_ | refine Run.skip ?_))
    exact Run.lp (Run.again (ih (i + 1, D6, l', ya, yc) (by dsimp only; omega) ⟨by dsimp only; omega, hready3, hl8.1, hl8.2⟩) (.cons rfl (.cons rfl (.cons rfl (.cons rfl (.cons rfl (.cons rfl (.cons rfl .nil))))))) (fun h q => q))
  · rw [List.append_assoc] at q
    refine fold_grp (I := LstK (.slice ya l'.length yc) l') (R := [DiskP d D6]) (take_app G5 [DiskP d D6]) hG5 h ?_
    exact seps_app (fun _ q => q) (fun h q => take_sub (.cons s1 .nil) h (seps_comm h q)) h q
  rcases hres with ⟨rfl, rfl⟩ | ⟨rfl, hres⟩
  · (repeat (first | (apply Ops.q; rfl; rfl) | (apply Ops.gyB; rfl; rfl) | (apply Ops.gnB; rfl; decide) | (apply Ops.add; rfl; rfl; (constructor <;> omega)) | (apply Ops.sub; rfl; rfl; (constructor <;> omega)) | (apply Ops.rem; rfl; rfl; omega; omega) | (apply Ops.quo; rfl; rfl; (constructor <;> omega); omega) | (apply Ops.ld; rfl; (first | exact m0 | exact m1 | exact m2 | exact m3 | exact m4 | exact m5 | exact m6); rfl) | (apply Ops.st0; rfl; rfl; rfl; rfl; (first | exact u0 | exact u1 | exact u2 | exact u3 | exact u4 | exact u5); focus (simp; done)) | refine Ops.nil ?_ | refine Segs.nil ?_ | (apply Segs.oneS; rfl) | refine Run.seq ?_ | refine Run.reg ?_ | refine Run.block ?_ | refine Run.blk ?_ | refine Run.skip ?_))
    refine Ops.call1 rfl .nil (fun F' e _ => law_same _ _ l' l' F' (hb5.ext e) ((hrb.ext x1).ext e) (by omega)) ?_
    rintro v G' ⟨rfl, rfl⟩
    rw [decide_eq_true (rfl : l' = l')]
    simp only [List.nil_append]
    (repeat (first | (apply Ops.q; rfl; rfl) | (apply Ops.gyB; rfl; rfl) | (apply Ops.gnB; rfl; decide) | (apply Ops.add; rfl; rfl; (constructor <;> omega)) | (apply Ops.sub; rfl; rfl; (constructor <;> omega)) | (apply Ops.rem; rfl; rfl; omega; omega) | (apply Ops.quo; rfl; rfl; (constructor <;> omega); omega) | (apply Ops.ld; rfl; (first | exact m0 | exact m1 | exact m2 | exact m3 | exact m4 | exact m5 | exact m6); rfl) | (apply Ops.st0; rfl; rfl; rfl; rfl; (first | exact u0 | exact u1 | exact u2 | exact u3 | exact u4 | exact u5); focus (simp; done)) | refine Ops.nil ?_ | refine Segs.nil ?_ | (apply Segs.oneS; rfl) | refine Run.seq ?_ | refine Run.reg ?_ | refine Run.block ?_ | refine Run.blk ?_ | refine Run.skip ?_))
    refine Ops.call1 rfl .nil (fun F' e _ => law_same _ _ l' l' F' (hb5.ext e) ((hrb.ext x1).ext e) (by omega)) ?_
    rintro v G' ⟨rfl, rfl⟩
    rw [decide_eq_true (rfl : l' = l')]
    simp only [List.nil_append]
    (repeat (first | (apply Ops.q; rfl; rfl) | (apply Ops.gyB; rfl; rfl) | (apply Ops.gnB; rfl; decide) | (apply Ops.add; rfl; rfl; (constructor <;> omega)) | (apply Ops.sub; rfl; rfl; (constructor <;> omega)) | (apply Ops.rem; rfl; rfl; omega; omega) | (apply Ops.quo; rfl; rfl; (constructor <;> omega); omega) | (apply Ops.ld; rfl; (first | exact m0 | exact m1 | exact m2 | exact m3 | exact m4 | exact m5 | exact m6); rfl) | (apply Ops.st0; rfl; rfl; rfl; rfl; (first | exact u0 | exact u1 | exact u2 | exact u3 | exact u4 | exact u5); focus (simp; done)) | refine Ops.nil ?_ | refine Segs.nil ?_ | (apply Segs.oneS; rfl) | refine Run.seq ?_ | refine Run.reg ?_ | refine Run.block ?_ | refine Run.blk ?_ | refine Run.skip ?_))
    exact ⟨(.cons rfl (.cons rfl (.cons rfl (.cons rfl (.cons rfl (.cons rfl (.cons rfl (.cons rfl .nil)))))))), rfl⟩
  · (repeat (first | (apply Ops.q; rfl; rfl) | (apply Ops.gyB; rfl; rfl) | (apply Ops.gnB; rfl; decide) | (apply Ops.add; rfl; rfl; (constructor <;> omega)) | (apply Ops.sub; rfl; rfl; (constructor <;> omega)) | (apply Ops.rem; rfl; rfl; omega; omega) | (apply Ops.quo; rfl; rfl; (constructor <;> omega); omega) | (apply Ops.ld; rfl; (first | exact m0 | exact m1 | exact m2 | exact m3 | exact m4 | exact m5 | exact m6); rfl) | (apply Ops.st0; rfl; rfl; rfl; rfl; (first | exact u0 | exact u1 | exact u2 | exact u3 | exact u4 | exact u5); focus (simp; done)) | refine Ops.nil ?_ | refine Segs.nil ?_ | (apply Segs.oneS; rfl) | refine Run.seq ?_ | refine Run.reg ?_ | refine Run.block ?_ | refine Run.blk ?_ | refine Run.skip ?_))
    refine Ops.call1 rfl .nil (fun F' e _ => law_same _ _ l' rows F' (hb5.ext e) ((hrb.ext x1).ext e) (by omega)) ?_
    rintro v G' ⟨rfl, rfl⟩
    simp only [List.nil_append]
    by_cases hlr : l' = rows
    · rw [decide_eq_true hlr]
      (repeat (first | (apply Ops.q; rfl; rfl) | (apply Ops.gyB; rfl; rfl) | (apply Ops.gnB; rfl; decide) | (apply Ops.add; rfl; rfl; (constructor <;> omega)) | (apply Ops.sub; rfl; rfl; (constructor <;> omega)) | (apply Ops.rem; rfl; rfl; omega; omega) | (apply Ops.quo; rfl; rfl; (constructor <;> omega); omega) | (apply Ops.ld; rfl; (first | exact m0 | exact m1 | exact m2 | exact m3 | exact m4 | exact m5 | exact m6); rfl) | (apply Ops.st0; rfl; rfl; rfl; rfl; (first | exact u0 | exact u1 | exact u2 | exact u3 | exact u4 | exact u5); focus (simp; done)) | refine Ops.nil ?_ | refine Segs.nil ?_ | (apply Segs.oneS; rfl) | refine Run.seq ?_ | refine Run.reg ?_ | refine Run.block ?_ | refine Run.blk ?_ | refine Run.skip ?_))
      exact ⟨(.cons rfl (.cons rfl (.cons rfl (.cons rfl (.cons rfl (.cons rfl (.cons rfl (.cons rfl .nil)))))))), rfl⟩
    · have hlh : l' = held := by rcases hres with h | h; exact h; exact absurd h hlr
      rw [decide_eq_false hlr]
      (repeat (first | (apply Ops.q; rfl; rfl) | (apply Ops.gyB; rfl; rfl) | (apply Ops.gnB; rfl; decide) | (apply Ops.add; rfl; rfl; (constructor <;> omega)) | (apply Ops.sub; rfl; rfl; (constructor <;> omega)) | (apply Ops.rem; rfl; rfl; omega; omega) | (apply Ops.quo; rfl; rfl; (constructor <;> omega); omega) | (apply Ops.ld; rfl; (first | exact m0 | exact m1 | exact m2 | exact m3 | exact m4 | exact m5 | exact m6); rfl) | (apply Ops.st0; rfl; rfl; rfl; rfl; (first | exact u0 | exact u1 | exact u2 | exact u3 | exact u4 | exact u5); focus (simp; done)) | refine Ops.nil ?_ | refine Segs.nil ?_ | (apply Segs.oneS; rfl) | refine Run.seq ?_ | refine Run.reg ?_ | refine Run.block ?_ | refine Run.blk ?_ | refine Run.skip ?_))
      refine Ops.call1 rfl .nil (fun F' e _ => law_same _ _ l' held F' (hb5.ext e) (hbh.ext e) (by omega)) ?_
      rintro v G' ⟨rfl, rfl⟩
      rw [decide_eq_true hlh]
      simp only [List.nil_append]
      (repeat (first | (apply Ops.q; rfl; rfl) | (apply Ops.gyB; rfl; rfl) | (apply Ops.gnB; rfl; decide) | (apply Ops.add; rfl; rfl; (constructor <;> omega)) | (apply Ops.sub; rfl; rfl; (constructor <;> omega)) | (apply Ops.rem; rfl; rfl; omega; omega) | (apply Ops.quo; rfl; rfl; (constructor <;> omega); omega) | (apply Ops.ld; rfl; (first | exact m0 | exact m1 | exact m2 | exact m3 | exact m4 | exact m5 | exact m6); rfl) | (apply Ops.st0; rfl; rfl; rfl; rfl; (first | exact u0 | exact u1 | exact u2 | exact u3 | exact u4 | exact u5); focus (simp; done)) | refine Ops.nil ?_ | refine Segs.nil ?_ | (apply Segs.oneS; rfl) | refine Run.seq ?_ | refine Run.reg ?_ | refine Run.block ?_ | refine Run.blk ?_ | refine Run.skip ?_))
      exact ⟨(.cons rfl (.cons rfl (.cons rfl (.cons rfl (.cons rfl (.cons rfl (.cons rfl (.cons rfl .nil)))))))), rfl⟩
end Eng
end Go.Proofs.Ytbhlolmglieehaa
