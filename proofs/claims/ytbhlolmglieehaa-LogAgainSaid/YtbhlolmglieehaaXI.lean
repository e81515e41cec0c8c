/- The statements' helpers: lists that are the same. -/
import Derived.Test.YtbhlolmglieehaaXG
import Derived.Laws.Strings
import Derived.Test.YtbhlolmglieehaaXH
import Derived.Test.YtbhlolmglieehaaRows
import Derived.Below
import Derived.ChangeSame
import Derived.OpenShut
import Derived.JoinedCond
import Derived.ProofKit
import Derived.Carry
import Derived.Lib.SmallJoins
set_option linter.unusedSimpArgs false
set_option linter.unusedVariables false
namespace Go.Proofs.Ytbhlolmglieehaa
namespace Eng

section
variable {P : Program} {F : Hp} {l : Fr} {H : List HA} {C : Fr → List HA → Prop} {es : List EG} {i d : Nat} {c : Bool}

theorem Ops.cvBS {x : Operand} {v : Value} {bs : Bytes} (hx : get l x = some v) (hr : RdB F v bs) (k : Ops P F es ((d, .string ⟨bs.toArray⟩) :: l) H C) : Ops P F (EG.mk i (some d) none c (.cvBS x) :: es) l H C :=
  Ops.any (fun ρ w Q ag f q => by
    obtain ⟨a, c, rfl, h⟩ := hr
    refine ⟨a, c, bs, ag _ _ hx, ?_, q⟩
    rw [ag _ _ hx]
    rcases h with h | ⟨b, o, L, T, fz, rfl, hF, hl, ht⟩
    · subst h
      cases a with
      | none => rfl
      | some a => exact .inl ⟨rfl, rfl⟩
    · exact .inr ⟨rfl, L, T, fz, f _ _ hF, by rw [Nat.mul_one]; exact hl, by rw [Nat.mul_one, ht]; rfl⟩) k
end

attribute [local irreducible] Ops Segs Run Spec

theorem law_same (u v : Value) (xs ys : List Bytes) (F : Hp) (hx : RdBB F u xs) (hy : RdBB F v ys) (hn : xs.length ≤ 1099511627) :
    Spec Try.prog 13 [u, v].toArray F [] fun r H => r = .bool (decide (xs = ys)) ∧ H = [] := by
  obtain ⟨oa, oc, rfl, hx⟩ := hx
  obtain ⟨pa, pc, rfl, hy⟩ := hy
  refine Spec.enter (n := 28) Try.func13 ok_law04_same rfl (by simp) ?_
  unfold ec_law04_same
  simp only [argFr, Nat.reduceAdd]
  (repeat (first | (apply Ops.q; rfl; rfl) | (apply Ops.gyB; rfl; rfl) | (apply Ops.gnB; rfl; decide) | (apply Ops.add; rfl; rfl; (constructor <;> omega)) | (apply Ops.sub; rfl; rfl; (constructor <;> omega)) | (apply Ops.rem; rfl; rfl; omega; omega) | (apply Ops.quo; rfl; rfl; (constructor <;> omega); omega) | (apply Ops.ld; rfl; (first | exact m0 | exact m1 | exact m2 | exact m3 | exact m4 | exact m5 | exact m6); rfl) | (apply Ops.st0; rfl; rfl; rfl; rfl; (first | exact u0 | exact u1 | exact u2 | exact u3 | exact u4 | exact u5); focus (simp; done)) | refine Ops.nil ?_ | refine Segs.nil ?_ | (apply Segs.oneS; rfl) | refine Run.seq ?_ | refine Run.reg ?_ | refine Run.block ?_ | refine Run.blk ?_ | refine Run.skip ?_))
  by_cases hl : xs.length = ys.length
  case neg =>
    have hne : xs ≠ ys := fun e => hl (by rw [e])
    refine Run.condT (by simp [get, look]; omega) ?_
    (repeat (first | (apply Ops.q; rfl; rfl) | (apply Ops.gyB; rfl; rfl) | (apply Ops.gnB; rfl; decide) | (apply Ops.add; rfl; rfl; (constructor <;> omega)) | (apply Ops.sub; rfl; rfl; (constructor <;> omega)) | (apply Ops.rem; rfl; rfl; omega; omega) | (apply Ops.quo; rfl; rfl; (constructor <;> omega); omega) | (apply Ops.ld; rfl; (first | exact m0 | exact m1 | exact m2 | exact m3 | exact m4 | exact m5 | exact m6); rfl) | (apply Ops.st0; rfl; rfl; rfl; rfl; (first | exact u0 | exact u1 | exact u2 | exact u3 | exact u4 | exact u5); focus (simp; done)) | refine Ops.nil ?_ | refine Segs.nil ?_ | (apply Segs.oneS; rfl) | refine Run.seq ?_ | refine Run.reg ?_ | refine Run.block ?_ | refine Run.blk ?_ | refine Run.skip ?_))
    exact Run.ret1 Try.func13 rfl rfl (fun h q => q) ⟨by simp [hne], rfl⟩
  refine Run.condF (by simp [get, look]; omega) ?_
  (repeat (first | (apply Ops.q; rfl; rfl) | (apply Ops.gyB; rfl; rfl) | (apply Ops.gnB; rfl; decide) | (apply Ops.add; rfl; rfl; (constructor <;> omega)) | (apply Ops.sub; rfl; rfl; (constructor <;> omega)) | (apply Ops.rem; rfl; rfl; omega; omega) | (apply Ops.quo; rfl; rfl; (constructor <;> omega); omega) | (apply Ops.ld; rfl; (first | exact m0 | exact m1 | exact m2 | exact m3 | exact m4 | exact m5 | exact m6); rfl) | (apply Ops.st0; rfl; rfl; rfl; rfl; (first | exact u0 | exact u1 | exact u2 | exact u3 | exact u4 | exact u5); focus (simp; done)) | refine Ops.nil ?_ | refine Segs.nil ?_ | (apply Segs.oneS; rfl) | refine Run.seq ?_ | refine Run.reg ?_ | refine Run.block ?_ | refine Run.blk ?_ | refine Run.skip ?_))
  refine Run.loopI (ι := Nat) (fun x => xs.length - x) (fun x => x ≤ xs.length ∧ decide (xs = ys) = decide (xs.drop x = ys.drop x))
    (fun x => [(14, .int .i64 x), (13, .int .i64 xs.length), (12, .slice oa xs.length oc), (1, .slice pa ys.length pc)]) (fun _ => [])
    0 ⟨Nat.zero_le _, rfl⟩ (.cons rfl (.cons rfl (.cons rfl (.cons rfl .nil)))) (fun _ h => h) ?_
  rintro i ⟨hi, hdec⟩ ih
  try dsimp only at hi hdec ih ⊢
  unfold ec_law04_same_L0
  (repeat (first | (apply Ops.q; rfl; rfl) | (apply Ops.gyB; rfl; rfl) | (apply Ops.gnB; rfl; decide) | (apply Ops.add; rfl; rfl; (constructor <;> omega)) | (apply Ops.sub; rfl; rfl; (constructor <;> omega)) | (apply Ops.rem; rfl; rfl; omega; omega) | (apply Ops.quo; rfl; rfl; (constructor <;> omega); omega) | (apply Ops.ld; rfl; (first | exact m0 | exact m1 | exact m2 | exact m3 | exact m4 | exact m5 | exact m6); rfl) | (apply Ops.st0; rfl; rfl; rfl; rfl; (first | exact u0 | exact u1 | exact u2 | exact u3 | exact u4 | exact u5); focus (simp; done)) | refine Ops.nil ?_ | refine Segs.nil ?_ | (apply Segs.oneS; rfl) | refine Run.seq ?_ | refine Run.reg ?_ | refine Run.block ?_ | refine Run.blk ?_ | refine Run.skip ?_))
  refine Run.condD rfl (fun hlt => ?_) (fun hge => ?_)
  · have h1 : i < xs.length := by omega
    have h2 : i < ys.length := by omega
    have e1 : xs[i]? = some xs[i] := List.getElem?_eq_getElem h1
    have e2 : ys[i]? = some ys[i] := List.getElem?_eq_getElem h2
    rw [List.drop_eq_getElem_cons h1, List.drop_eq_getElem_cons h2] at hdec
    generalize xs[i] = b at *
    generalize ys[i] = b' at *
    rcases hx with hx | ⟨ob, o, L, T, fz, rfl, hF, hl1, hrd⟩
    · rw [hx] at h1; simp at h1
    rcases hy with hy | ⟨ob', o', L', T', fz', rfl, hF', hl1', hrd'⟩
    · rw [hy] at h2; simp at h2
    obtain ⟨x, hx, hrx⟩ := hrd i _ e1
    obtain ⟨y, hy, hry⟩ := hrd' i _ e2
    (repeat (first | (apply Ops.q; rfl; rfl) | (apply Ops.gyB; rfl; rfl) | (apply Ops.gnB; rfl; decide) | (apply Ops.add; rfl; rfl; (constructor <;> omega)) | (apply Ops.sub; rfl; rfl; (constructor <;> omega)) | (apply Ops.rem; rfl; rfl; omega; omega) | (apply Ops.quo; rfl; rfl; (constructor <;> omega); omega) | (apply Ops.ld; rfl; (first | exact m0 | exact m1 | exact m2 | exact m3 | exact m4 | exact m5 | exact m6); rfl) | (apply Ops.st0; rfl; rfl; rfl; rfl; (first | exact u0 | exact u1 | exact u2 | exact u3 | exact u4 | exact u5); focus (simp; done)) | refine Ops.nil ?_ | refine Segs.nil ?_ | (apply Segs.oneS; rfl) | refine Run.seq ?_ | refine Run.reg ?_ | refine Run.block ?_ | refine Run.blk ?_ | refine Run.skip ?_))
    refine Ops.ixS rfl rfl ⟨by omega, by omega⟩ ?_
    refine Ops.ldF rfl hF (by rw [Int.toNat_natCast, Nat.mul_one]; exact hx) ?_
    (repeat (first | (apply Ops.q; rfl; rfl) | (apply Ops.gyB; rfl; rfl) | (apply Ops.gnB; rfl; decide) | (apply Ops.add; rfl; rfl; (constructor <;> omega)) | (apply Ops.sub; rfl; rfl; (constructor <;> omega)) | (apply Ops.rem; rfl; rfl; omega; omega) | (apply Ops.quo; rfl; rfl; (constructor <;> omega); omega) | (apply Ops.ld; rfl; (first | exact m0 | exact m1 | exact m2 | exact m3 | exact m4 | exact m5 | exact m6); rfl) | (apply Ops.st0; rfl; rfl; rfl; rfl; (first | exact u0 | exact u1 | exact u2 | exact u3 | exact u4 | exact u5); focus (simp; done)) | refine Ops.nil ?_ | refine Segs.nil ?_ | (apply Segs.oneS; rfl) | refine Run.seq ?_ | refine Run.reg ?_ | refine Run.block ?_ | refine Run.blk ?_ | refine Run.skip ?_))
    refine Segs.lend [] .nil fun F1 x1 k1 => ?_
    (repeat (first | (apply Ops.q; rfl; rfl) | (apply Ops.gyB; rfl; rfl) | (apply Ops.gnB; rfl; decide) | (apply Ops.add; rfl; rfl; (constructor <;> omega)) | (apply Ops.sub; rfl; rfl; (constructor <;> omega)) | (apply Ops.rem; rfl; rfl; omega; omega) | (apply Ops.quo; rfl; rfl; (constructor <;> omega); omega) | (apply Ops.ld; rfl; (first | exact m0 | exact m1 | exact m2 | exact m3 | exact m4 | exact m5 | exact m6); rfl) | (apply Ops.st0; rfl; rfl; rfl; rfl; (first | exact u0 | exact u1 | exact u2 | exact u3 | exact u4 | exact u5); focus (simp; done)) | refine Ops.nil ?_ | refine Segs.nil ?_ | (apply Segs.oneS; rfl) | refine Run.seq ?_ | refine Run.reg ?_ | refine Run.block ?_ | refine Run.blk ?_ | refine Run.skip ?_))
    refine Ops.ixS rfl rfl ⟨by omega, by omega⟩ ?_
    refine Ops.cvBS rfl (hrx.ext x1) ?_
    refine Ops.ldF rfl (x1 _ _ hF') (by rw [Int.toNat_natCast, Nat.mul_one]; exact hy) ?_
    refine Ops.cvBS rfl (hry.ext x1) ?_
    refine Ops.nil (Segs.oneS rfl ?_)
    refine Ops.pE (v' := .bool (!decide (b = b'))) rfl ?_ ?_
    · congr 2
      rw [ByteArray.toList_eq, ByteArray.toList_eq]
      by_cases e : b = b' <;> simp [e]
    (repeat (first | (apply Ops.q; rfl; rfl) | (apply Ops.gyB; rfl; rfl) | (apply Ops.gnB; rfl; decide) | (apply Ops.add; rfl; rfl; (constructor <;> omega)) | (apply Ops.sub; rfl; rfl; (constructor <;> omega)) | (apply Ops.rem; rfl; rfl; omega; omega) | (apply Ops.quo; rfl; rfl; (constructor <;> omega); omega)))
    refine Ops.nil (Segs.nil ?_)
    by_cases hbb : b = b'
    · refine Run.condF (by simp [get, look, hbb]) ?_
      subst hbb
      (repeat (first | (apply Ops.q; rfl; rfl) | (apply Ops.gyB; rfl; rfl) | (apply Ops.gnB; rfl; decide) | (apply Ops.add; rfl; rfl; (constructor <;> omega)) | (apply Ops.sub; rfl; rfl; (constructor <;> omega)) | (apply Ops.rem; rfl; rfl; omega; omega) | (apply Ops.quo; rfl; rfl; (constructor <;> omega); omega) | (apply Ops.ld; rfl; (first | exact m0 | exact m1 | exact m2 | exact m3 | exact m4 | exact m5 | exact m6); rfl) | (apply Ops.st0; rfl; rfl; rfl; rfl; (first | exact u0 | exact u1 | exact u2 | exact u3 | exact u4 | exact u5); focus (simp; done)) | refine Ops.nil ?_ | refine Segs.nil ?_ | (apply Segs.oneS; rfl) | refine Run.seq ?_ | refine Run.reg ?_ | refine Run.block ?_ | refine Run.blk ?_ | refine Run.skip ?_))
      exact Run.lp (Run.again (ih (i + 1) (by omega) ⟨by omega, by rw [hdec]; exact decide_eq_decide.2 (by simp)⟩) (.cons rfl (.cons rfl (.cons rfl (.cons rfl .nil)))) (fun h q => q))
    · refine Run.condT (by simp [get, look, hbb]) ?_
      (repeat (first | (apply Ops.q; rfl; rfl) | (apply Ops.gyB; rfl; rfl) | (apply Ops.gnB; rfl; decide) | (apply Ops.add; rfl; rfl; (constructor <;> omega)) | (apply Ops.sub; rfl; rfl; (constructor <;> omega)) | (apply Ops.rem; rfl; rfl; omega; omega) | (apply Ops.quo; rfl; rfl; (constructor <;> omega); omega) | (apply Ops.ld; rfl; (first | exact m0 | exact m1 | exact m2 | exact m3 | exact m4 | exact m5 | exact m6); rfl) | (apply Ops.st0; rfl; rfl; rfl; rfl; (first | exact u0 | exact u1 | exact u2 | exact u3 | exact u4 | exact u5); focus (simp; done)) | refine Ops.nil ?_ | refine Segs.nil ?_ | (apply Segs.oneS; rfl) | refine Run.seq ?_ | refine Run.reg ?_ | refine Run.block ?_ | refine Run.blk ?_ | refine Run.skip ?_))
      exact Run.ret1 Try.func13 rfl rfl (fun h q => q) ⟨by rw [hdec]; simp [hbb], rfl⟩
  · have : i = xs.length := by omega
    subst this
    rw [List.drop_length, hl, List.drop_length] at hdec
    refine Run.exit rfl ?_
    (repeat (first | (apply Ops.q; rfl; rfl) | (apply Ops.gyB; rfl; rfl) | (apply Ops.gnB; rfl; decide) | (apply Ops.add; rfl; rfl; (constructor <;> omega)) | (apply Ops.sub; rfl; rfl; (constructor <;> omega)) | (apply Ops.rem; rfl; rfl; omega; omega) | (apply Ops.quo; rfl; rfl; (constructor <;> omega); omega) | (apply Ops.ld; rfl; (first | exact m0 | exact m1 | exact m2 | exact m3 | exact m4 | exact m5 | exact m6); rfl) | (apply Ops.st0; rfl; rfl; rfl; rfl; (first | exact u0 | exact u1 | exact u2 | exact u3 | exact u4 | exact u5); focus (simp; done)) | refine Ops.nil ?_ | refine Segs.nil ?_ | (apply Segs.oneS; rfl) | refine Run.seq ?_ | refine Run.reg ?_ | refine Run.block ?_ | refine Run.blk ?_ | refine Run.skip ?_))
    exact Run.ret1 Try.func13 rfl rfl (fun h q => q) ⟨by rw [hdec]; simp, rfl⟩

theorem Spec.openG {P : Program} {f : FuncId} {args : Array Value} {F : Hp} {I : List HA → Prop} {R : Value → List HA → Prop} (s : ∀ G, I G → Spec P f args F G R) : Spec P f args F [grp I] R := by
  unfold Spec
  intro w h q k
  obtain ⟨x, y, sp, ⟨G, hG, qG⟩, _⟩ := q
  have := s G hG
  unfold Spec at this
  exact this w h (seps_up qG sp.symm) k

theorem Spec.lendD {P : Program} {f : FuncId} {args : Array Value} {F : Hp} {G : List HA} {R : Value → List HA → Prop} (s : ∀ F', Ext F F' → Known G F' → Spec P f args F' [] R) : Spec P f args F G R := by
  have := Spec.frame (P := P) (f := f) (args := args) (F := F) (Pre := []) (Rest := G) (R := R) .nil s
  unfold Spec at this ⊢
  intro w h q k
  refine (this w h q k).mono ?_
  rintro e w' ⟨v, H', h', he, ⟨G', r, rfl⟩, q', k', kp⟩
  obtain ⟨x, y, sp, qx, _⟩ := seps_append.1 q'
  exact ⟨v, G', h', he, r, seps_up qx sp.symm, k', kp⟩

/-- a list's rows, once all of its blocks are known -/
def LstK (v : Value) (bss : List Bytes) (G : List HA) : Prop := (∃ a c, v = .slice a bss.length c) ∧ ∀ F, Known G F → RdBB F v bss
theorem lst_know {v : Value} {bss : List Bytes} {H : List HA} : ∀ h, seps (LstP v bss :: H) h → seps (grp (LstK v bss) :: H) h := by
  rintro h ⟨x, y, sp, ⟨G, ⟨a, c, vs, rfl, hv, rfl⟩, q⟩, qr⟩
  obtain ⟨x2, y2, sp2, ⟨G1, h1, q1⟩, ⟨x3, y3, sp3, ⟨G2, h2, q2⟩, _⟩⟩ := q
  exact ⟨x, y, sp, ⟨G1 ++ G2, ⟨⟨a, c, rfl⟩, fun F k => h1.rdBB k.left (h2.rds k.right)⟩, seps_append.2 ⟨x2, y2, sp2, q1, seps_up q2 sp3.symm⟩⟩, qr⟩

theorem law_same_list (u v : Value) (xs ys : List Bytes) (F : Hp) (hy : RdBB F v ys) (hn : xs.length ≤ 1099511627) :
    Spec Try.prog 13 [u, v].toArray F [LstP u xs] fun r H => r = .bool (decide (xs = ys)) ∧ H = [] := by
  have : Spec Try.prog 13 [u, v].toArray F [grp (LstK u xs)] fun r H => r = .bool (decide (xs = ys)) ∧ H = [] :=
    Spec.openG fun G hG => Spec.lendD fun F' e k => law_same u v xs ys F' (hG.2 F' k) (hy.ext e) hn
  unfold Spec at this ⊢
  exact fun w h q k => this w h (lst_know h q) k
end Eng
end Go.Proofs.Ytbhlolmglieehaa

/- The document's example. -/
set_option linter.unusedSimpArgs false
set_option linter.unusedVariables false
namespace Go.Proofs.Ytbhlolmglieehaa

theorem three_ne (D : DiskS) : ((3 : Int), D).1 ≠ 0 := by show (3 : Int) ≠ 0; decide

theorem put_down : ∀ (ss : List Bytes) (D : DiskS) (a : Nat), D.down = true → 1 ≤ ss.length → D.put a ss = (3, D) := by
  intro ss D a hd hn
  cases ss with
  | nil => simp at hn
  | cons s r =>
    simp only [DiskS.put]
    have : D.write a s = (3, D) := by unfold DiskS.write; rw [if_pos hd]
    rw [this, if_neg (three_ne D)]

theorem keep_down (L : LogS) (D : DiskS) (ss : List Bytes) (hd : D.down = true) (hn : 1 ≤ ss.length) : L.keep D ss = (3, D) := by
  have t1 : (ss.take 1).length = 1 := by simp; omega
  unfold LogS.keep
  by_cases h : 1 < ss.length
  · rw [if_pos h, put_down _ D _ hd (by rw [List.length_tail]; omega), andThen_bad (three_ne D), andThen_bad (three_ne D)]
  · rw [if_neg h, andThen_ok rfl, put_down _ D _ hd (by omega), andThen_bad (three_ne D)]

theorem append_down {L : LogS} {D : DiskS} {b : Bytes} (hdead : L.dead = false) (hd : D.down = true) (hb : b.length ≤ 4096) (hroom : L.pos + sectorsOf b.length ≤ D.hf) :
    L.append D b = (3, { L with dead := true }, D) := by
  have hcl := cutOf_len L.list.length L.epoch b
  have hs1 : 1 ≤ sectorsOf b.length := by unfold sectorsOf; omega
  unfold LogS.append
  rw [if_neg (by simp [hdead]), if_neg (by omega), if_neg (by omega), keep_down L D _ hd (by omega), if_neg (three_ne D)]

theorem append_dead {L : LogS} {D : DiskS} {b : Bytes} (hdead : L.dead = true) : L.append D b = (3, L, D) := by
  unfold LogS.append; rw [if_pos hdead]

theorem LogS.Ok.resize {L : LogS} {D D' : DiskS} (h : L.Ok D) (hok : D'.Ok) (e : D'.kept.length = D.kept.length) : L.Ok D' :=
  ⟨h.half, by rw [hf_eq e]; exact h.pos, h.epoch, h.top, h.list, hok, by rw [e]; exact h.size⟩

def bOne : Bytes := [111, 110, 101]
def bTwo : Bytes := [116, 119, 111]
def bSome : Bytes := [115, 111, 109, 101]

namespace Eng
section
variable {P : Program} {F : Hp} {l : Fr} {H : List HA} {C : Fr → List HA → Prop} {es : List EG} {i d : Nat} {c : Bool}

theorem Ops.cvLit {x : Operand} {b n m : Nat} {L : List Value} {T : TypeId} {H' : List HA} (hx : get l x = some (.slice (some ⟨b, 0, none⟩) n m))
    (u : Upd H (.pt b (.cells L.toArray T (0, 0))) (.pt b (.cells L.toArray T (L.length, L.length + 1))) H')
    (k : Ops P F es ((d, .slice (some ⟨b, 0, none⟩) n m) :: l) H' C) : Ops P F (EG.mk i (some d) none false (.cvLit x) :: es) l H C :=
  Ops.busy (R := fun v' M => v' = .slice (some ⟨b, 0, none⟩) n m ∧ M = H') (fun w h ρ a q f =>
    ⟨b, n, m, L, T, (0, 0), a _ _ hx, f.own _ _ (seps_mem_pt u.mem q), rfl, by rw [a _ _ hx]; exact ⟨H', _, ⟨rfl, rfl⟩, seps_upd u q, f.set (seps_mem_pt u.mem q), Keeps.setBlk w b _⟩⟩)
    fun v' M ⟨e1, e2⟩ => by subst e1; subst e2; exact k

/-- whether a pointer is nil -/
theorem Ops.nilp {dd : TypeDesc} {x y : Operand} {a : Addr} (hd : ∃ T, dd = .pointer T) (hx : get l x = some (.pointer (some a))) (hy : get l y = some (.pointer none)) (k : Ops P F es ((d, .bool false) :: l) H C) :
    Ops P F (EG.mk i (some d) none c (.eqv dd false x y) :: es) l H C := by
  obtain ⟨T, rfl⟩ := hd
  refine Ops.p ?_ k
  simp only [pv, hx, hy]
  rfl
end

attribute [local irreducible] Ops Segs Run Spec

set_option maxHeartbeats 1000000 in
theorem law_alive (F : Hp) : Spec Try.prog 7 [].toArray F [] fun v H => v = .bool true ∧ H = [] := by
  obtain ⟨L1, D1, ho1, hl1, ht1, hf1, hn1⟩ := new_open (n := 20) (by decide)
  have hok0 := new_ok (n := 20) (by decide)
  refine Spec.enter (n := 81) Try.func7 ok_law04_alive rfl (by simp) ?_
  unfold ec_law04_alive
  simp only [argFr, Nat.reduceAdd]
  (repeat (first | (apply Ops.q; rfl; rfl) | (apply Ops.gyB; rfl; rfl) | (apply Ops.gnB; rfl; decide) | (apply Ops.add; rfl; rfl; (constructor <;> omega)) | (apply Ops.sub; rfl; rfl; (constructor <;> omega)) | (apply Ops.rem; rfl; rfl; omega; omega) | (apply Ops.quo; rfl; rfl; (constructor <;> omega); omega) | (apply Ops.ld; rfl; (first | exact m0 | exact m1 | exact m2 | exact m3 | exact m4 | exact m5 | exact m6); rfl) | (apply Ops.st0; rfl; rfl; rfl; rfl; (first | exact u0 | exact u1 | exact u2 | exact u3 | exact u4 | exact u5); focus (simp; done)) | refine Ops.nil ?_ | refine Segs.nil ?_ | (apply Segs.oneS; rfl) | refine Run.seq ?_ | refine Run.reg ?_ | refine Run.block ?_ | refine Run.blk ?_ | refine Run.skip ?_))
  refine Ops.call1 rfl .nil (fun F' _ _ => disk_New 20 (by decide) F') ?_
  rintro v G ⟨d, rfl, rfl⟩
  simp only [List.cons_append, List.nil_append]
  (repeat (first | (apply Ops.q; rfl; rfl) | (apply Ops.gyB; rfl; rfl) | (apply Ops.gnB; rfl; decide) | (apply Ops.add; rfl; rfl; (constructor <;> omega)) | (apply Ops.sub; rfl; rfl; (constructor <;> omega)) | (apply Ops.rem; rfl; rfl; omega; omega) | (apply Ops.quo; rfl; rfl; (constructor <;> omega); omega) | (apply Ops.ld; rfl; (first | exact m0 | exact m1 | exact m2 | exact m3 | exact m4 | exact m5 | exact m6); rfl) | (apply Ops.st0; rfl; rfl; rfl; rfl; (first | exact u0 | exact u1 | exact u2 | exact u3 | exact u4 | exact u5); focus (simp; done)) | refine Ops.nil ?_ | refine Segs.nil ?_ | (apply Segs.oneS; rfl) | refine Run.seq ?_ | refine Run.reg ?_ | refine Run.block ?_ | refine Run.blk ?_ | refine Run.skip ?_))
  refine Ops.call1 rfl (.cons s0 .nil) (fun F' _ _ => log_Open d (DiskS.new 20) hok0.1 rfl (by decide) F') ?_
  intro v G hv
  rw [show DiskS.new 20 = DiskS.new ((20 : Nat) : Int) from rfl, ho1] at hv
  obtain ⟨l, rfl, rfl⟩ := hv
  simp only [List.cons_append, List.nil_append]
  (repeat (first | (apply Ops.q; rfl; rfl) | (apply Ops.gyB; rfl; rfl) | (apply Ops.gnB; rfl; decide) | (apply Ops.add; rfl; rfl; (constructor <;> omega)) | (apply Ops.sub; rfl; rfl; (constructor <;> omega)) | (apply Ops.rem; rfl; rfl; omega; omega) | (apply Ops.quo; rfl; rfl; (constructor <;> omega); omega) | (apply Ops.ld; rfl; (first | exact m0 | exact m1 | exact m2 | exact m3 | exact m4 | exact m5 | exact m6); rfl) | (apply Ops.st0; rfl; rfl; rfl; rfl; (first | exact u0 | exact u1 | exact u2 | exact u3 | exact u4 | exact u5); focus (simp; done)) | refine Ops.nil ?_ | refine Segs.nil ?_ | (apply Segs.oneS; rfl) | refine Run.seq ?_ | refine Run.reg ?_ | refine Run.block ?_ | refine Run.blk ?_ | refine Run.skip ?_))
  refine Run.condF rfl ?_
  (repeat (first | (apply Ops.q; rfl; rfl) | (apply Ops.gyB; rfl; rfl) | (apply Ops.gnB; rfl; decide) | (apply Ops.add; rfl; rfl; (constructor <;> omega)) | (apply Ops.sub; rfl; rfl; (constructor <;> omega)) | (apply Ops.rem; rfl; rfl; omega; omega) | (apply Ops.quo; rfl; rfl; (constructor <;> omega); omega) | (apply Ops.ld; rfl; (first | exact m0 | exact m1 | exact m2 | exact m3 | exact m4 | exact m5 | exact m6); rfl) | (apply Ops.st0; rfl; rfl; rfl; rfl; (first | exact u0 | exact u1 | exact u2 | exact u3 | exact u4 | exact u5); focus (simp; done)) | refine Ops.nil ?_ | refine Segs.nil ?_ | (apply Segs.oneS; rfl) | refine Run.seq ?_ | refine Run.reg ?_ | refine Run.block ?_ | refine Run.blk ?_ | refine Run.skip ?_))
  refine Ops.lit (bvs bOne) rfl rfl fun b1 => ?_
  refine Ops.cvLit rfl u0 ?_
  have hb1 : bOne.length ≤ 4096 := by decide
  refine Ops.call1 rfl (.cons s1 (.cons s1 .nil)) (fun F' e kn => log_Append l d L1 D1 hl1.ok (by rw [hl1.cache]; decide) _ bOne (by decide) F' (rdB_at (bs := bOne) (kn _ _ m0) 3 (o := 0) (by decide) (.inl rfl))) ?_
  rintro v G ⟨rfl, rfl⟩
  simp only [List.cons_append, List.nil_append]
  have hhf1 : D1.hf = 9 := by unfold DiskS.hf; rw [hn1]
  rcases append_held hl1 hb1 (by rw [hhf1]; decide) with ⟨a1, a2, a3, a4⟩ | ⟨_, a2, _⟩
  case inr => omega
  rw [a1]
  generalize L1.append D1 bOne = r1 at *
  obtain ⟨e1, L2, D2⟩ := r1
  dsimp only at *
  rw [List.nil_append] at a2
  (repeat (first | (apply Ops.q; rfl; rfl) | (apply Ops.gyB; rfl; rfl) | (apply Ops.gnB; rfl; decide) | (apply Ops.add; rfl; rfl; (constructor <;> omega)) | (apply Ops.sub; rfl; rfl; (constructor <;> omega)) | (apply Ops.rem; rfl; rfl; omega; omega) | (apply Ops.quo; rfl; rfl; (constructor <;> omega); omega) | (apply Ops.ld; rfl; (first | exact m0 | exact m1 | exact m2 | exact m3 | exact m4 | exact m5 | exact m6); rfl) | (apply Ops.st0; rfl; rfl; rfl; rfl; (first | exact u0 | exact u1 | exact u2 | exact u3 | exact u4 | exact u5); focus (simp; done)) | refine Ops.nil ?_ | refine Segs.nil ?_ | (apply Segs.oneS; rfl) | refine Run.seq ?_ | refine Run.reg ?_ | refine Run.block ?_ | refine Run.blk ?_ | refine Run.skip ?_))
  refine Ops.call1 rfl (.cons s1 .nil) (fun F' e kn => crash_any d D2 0 (by decide) F') ?_
  rintro v G ⟨rfl, rfl⟩
  simp only [List.cons_append, List.nil_append]
  have hb2 := (a2.bears).crash 0
  have hD3 : (D2.crash 0).down = true ∧ (D2.crash 0).kept.length = 20 ∧ (D2.crash 0).cache = [] := ⟨rfl, by rw [hb2.2]; omega, rfl⟩
  generalize D2.crash 0 = D3 at *
  have hhf3 : D3.hf = 9 := by unfold DiskS.hf; rw [hD3.2.1]
  have ok3 : L2.Ok D3 := a2.ok.resize hb2.1.ok (by omega)
  have hp2 : L2.pos = 1 := by rw [a2.pos]; decide
  (repeat (first | (apply Ops.q; rfl; rfl) | (apply Ops.gyB; rfl; rfl) | (apply Ops.gnB; rfl; decide) | (apply Ops.add; rfl; rfl; (constructor <;> omega)) | (apply Ops.sub; rfl; rfl; (constructor <;> omega)) | (apply Ops.rem; rfl; rfl; omega; omega) | (apply Ops.quo; rfl; rfl; (constructor <;> omega); omega) | (apply Ops.ld; rfl; (first | exact m0 | exact m1 | exact m2 | exact m3 | exact m4 | exact m5 | exact m6); rfl) | (apply Ops.st0; rfl; rfl; rfl; rfl; (first | exact u0 | exact u1 | exact u2 | exact u3 | exact u4 | exact u5); focus (simp; done)) | refine Ops.nil ?_ | refine Segs.nil ?_ | (apply Segs.oneS; rfl) | refine Run.seq ?_ | refine Run.reg ?_ | refine Run.block ?_ | refine Run.blk ?_ | refine Run.skip ?_))
  refine Ops.lit (bvs bTwo) rfl rfl fun b2 => ?_
  refine Ops.cvLit rfl u0 ?_
  refine Ops.call1 rfl (.cons s2 (.cons s1 .nil)) (fun F' e kn => log_Append l d L2 D3 ok3 (by rw [hD3.2.2]; decide) _ bTwo (by decide) F' (rdB_at (bs := bTwo) (kn _ _ m0) 3 (o := 0) (by decide) (.inl rfl))) ?_
  rintro v G ⟨rfl, rfl⟩
  rw [append_down (b := bTwo) a2.dead hD3.1 (by decide) (by rw [hhf3, hp2]; decide)]
  simp only [List.cons_append, List.nil_append]
  (repeat (first | (apply Ops.q; rfl; rfl) | (apply Ops.gyB; rfl; rfl) | (apply Ops.gnB; rfl; decide) | (apply Ops.add; rfl; rfl; (constructor <;> omega)) | (apply Ops.sub; rfl; rfl; (constructor <;> omega)) | (apply Ops.rem; rfl; rfl; omega; omega) | (apply Ops.quo; rfl; rfl; (constructor <;> omega); omega) | (apply Ops.ld; rfl; (first | exact m0 | exact m1 | exact m2 | exact m3 | exact m4 | exact m5 | exact m6); rfl) | (apply Ops.st0; rfl; rfl; rfl; rfl; (first | exact u0 | exact u1 | exact u2 | exact u3 | exact u4 | exact u5); focus (simp; done)) | refine Ops.nil ?_ | refine Segs.nil ?_ | (apply Segs.oneS; rfl) | refine Run.seq ?_ | refine Run.reg ?_ | refine Run.block ?_ | refine Run.blk ?_ | refine Run.skip ?_))
  refine Ops.call1 rfl (.cons s1 .nil) (fun F' e kn => disk_On d D3 F') ?_
  rintro v G ⟨rfl, rfl⟩
  simp only [List.cons_append, List.nil_append]
  have hb4 := hb2.1.on
  have hD4 : ({ D3 with down := false } : DiskS).down = false ∧ ({ D3 with down := false } : DiskS).kept.length = 20 := ⟨rfl, hD3.2.1⟩
  generalize ({ D3 with down := false } : DiskS) = D4 at *
  obtain ⟨L4, ho4, hl4, _⟩ := hb4.open_ hD4.1
  have hhf4 : D4.hf = 9 := by unfold DiskS.hf; rw [hD4.2]
  refine Ops.nil (Segs.nil (Run.again (l' := [(5, .int .i64 3), (4, .int .i64 0), (1, .pointer (some ⟨d, 0, none⟩))]) (H' := [DiskP d D4]) ?_ (.cons rfl (.cons rfl (.cons rfl .nil))) (fun h q => take_sub (.cons s0 .nil) h q)))
  (repeat (first | (apply Ops.q; rfl; rfl) | (apply Ops.gyB; rfl; rfl) | (apply Ops.gnB; rfl; decide) | (apply Ops.add; rfl; rfl; (constructor <;> omega)) | (apply Ops.sub; rfl; rfl; (constructor <;> omega)) | (apply Ops.rem; rfl; rfl; omega; omega) | (apply Ops.quo; rfl; rfl; (constructor <;> omega); omega) | (apply Ops.ld; rfl; (first | exact m0 | exact m1 | exact m2 | exact m3 | exact m4 | exact m5 | exact m6); rfl) | (apply Ops.st0; rfl; rfl; rfl; rfl; (first | exact u0 | exact u1 | exact u2 | exact u3 | exact u4 | exact u5); focus (simp; done)) | refine Ops.nil ?_ | refine Segs.nil ?_ | (apply Segs.oneS; rfl) | refine Run.seq ?_ | refine Run.reg ?_ | refine Run.block ?_ | refine Run.blk ?_ | refine Run.skip ?_))
  refine Ops.call1 rfl (.cons s0 .nil) (fun F' _ _ => log_Open d D4 hb4.ok hD4.1 (by rw [hb4.cache]; decide) F') ?_
  intro v G hv
  rw [ho4] at hv
  obtain ⟨l4, rfl, rfl⟩ := hv
  simp only [List.cons_append, List.nil_append]
  (repeat (first | (apply Ops.q; rfl; rfl) | (apply Ops.gyB; rfl; rfl) | (apply Ops.gnB; rfl; decide) | (apply Ops.add; rfl; rfl; (constructor <;> omega)) | (apply Ops.sub; rfl; rfl; (constructor <;> omega)) | (apply Ops.rem; rfl; rfl; omega; omega) | (apply Ops.quo; rfl; rfl; (constructor <;> omega); omega) | (apply Ops.ld; rfl; (first | exact m0 | exact m1 | exact m2 | exact m3 | exact m4 | exact m5 | exact m6); rfl) | (apply Ops.st0; rfl; rfl; rfl; rfl; (first | exact u0 | exact u1 | exact u2 | exact u3 | exact u4 | exact u5); focus (simp; done)) | refine Ops.nil ?_ | refine Segs.nil ?_ | (apply Segs.oneS; rfl) | refine Run.seq ?_ | refine Run.reg ?_ | refine Run.block ?_ | refine Run.blk ?_ | refine Run.skip ?_))
  refine Run.condF rfl ?_
  (repeat (first | (apply Ops.q; rfl; rfl) | (apply Ops.gyB; rfl; rfl) | (apply Ops.gnB; rfl; decide) | (apply Ops.add; rfl; rfl; (constructor <;> omega)) | (apply Ops.sub; rfl; rfl; (constructor <;> omega)) | (apply Ops.rem; rfl; rfl; omega; omega) | (apply Ops.quo; rfl; rfl; (constructor <;> omega); omega) | (apply Ops.ld; rfl; (first | exact m0 | exact m1 | exact m2 | exact m3 | exact m4 | exact m5 | exact m6); rfl) | (apply Ops.st0; rfl; rfl; rfl; rfl; (first | exact u0 | exact u1 | exact u2 | exact u3 | exact u4 | exact u5); focus (simp; done)) | refine Ops.nil ?_ | refine Segs.nil ?_ | (apply Segs.oneS; rfl) | refine Run.seq ?_ | refine Run.reg ?_ | refine Run.block ?_ | refine Run.blk ?_ | refine Run.skip ?_))
  refine Ops.call1 rfl (.cons s0 .nil) (fun F' _ _ => log_List l4 d L4 (by rw [hl4.list]; decide) (by rw [hl4.list]; decide) F') ?_
  rintro v G ⟨xa, xc, rfl, rfl⟩
  rw [hl4.list]
  simp only [List.cons_append, List.nil_append]
  (repeat (first | (apply Ops.q; rfl; rfl) | (apply Ops.gyB; rfl; rfl) | (apply Ops.gnB; rfl; decide) | (apply Ops.add; rfl; rfl; (constructor <;> omega)) | (apply Ops.sub; rfl; rfl; (constructor <;> omega)) | (apply Ops.rem; rfl; rfl; omega; omega) | (apply Ops.quo; rfl; rfl; (constructor <;> omega); omega)))
  refine Ops.nil (Segs.nil (Run.conseq lst_know (Run.open_ s0 fun G hG => Run.lendD G (take_app G _) fun F1 x1 k1 => ?_)))
  obtain ⟨_, hbb⟩ := hG
  obtain ⟨xa', xc', he, hbb⟩ := hbb F1 k1
  cases he
  rcases hbb with hbb | ⟨ob, o, La, T, fz, rfl, hFb, hl, hrd⟩
  · cases hbb
  obtain ⟨x, hx, hrx⟩ := hrd 0 bOne rfl
  (repeat (first | (apply Ops.q; rfl; rfl) | (apply Ops.gyB; rfl; rfl) | (apply Ops.gnB; rfl; decide) | (apply Ops.add; rfl; rfl; (constructor <;> omega)) | (apply Ops.sub; rfl; rfl; (constructor <;> omega)) | (apply Ops.rem; rfl; rfl; omega; omega) | (apply Ops.quo; rfl; rfl; (constructor <;> omega); omega) | (apply Ops.ld; rfl; (first | exact m0 | exact m1 | exact m2 | exact m3 | exact m4 | exact m5 | exact m6); rfl) | (apply Ops.st0; rfl; rfl; rfl; rfl; (first | exact u0 | exact u1 | exact u2 | exact u3 | exact u4 | exact u5); focus (simp; done)) | refine Ops.nil ?_ | refine Segs.nil ?_ | (apply Segs.oneS; rfl) | refine Run.seq ?_ | refine Run.reg ?_ | refine Run.block ?_ | refine Run.blk ?_ | refine Run.skip ?_))
  refine Ops.ixS rfl rfl ⟨by decide, by decide⟩ ?_
  (repeat (first | (apply Ops.q; rfl; rfl) | (apply Ops.gyB; rfl; rfl) | (apply Ops.gnB; rfl; decide) | (apply Ops.add; rfl; rfl; (constructor <;> omega)) | (apply Ops.sub; rfl; rfl; (constructor <;> omega)) | (apply Ops.rem; rfl; rfl; omega; omega) | (apply Ops.quo; rfl; rfl; (constructor <;> omega); omega) | (apply Ops.ld; rfl; (first | exact m0 | exact m1 | exact m2 | exact m3 | exact m4 | exact m5 | exact m6); rfl) | (apply Ops.st0; rfl; rfl; rfl; rfl; (first | exact u0 | exact u1 | exact u2 | exact u3 | exact u4 | exact u5); focus (simp; done)) | refine Ops.nil ?_ | refine Segs.nil ?_ | (apply Segs.oneS; rfl) | refine Run.seq ?_ | refine Run.reg ?_ | refine Run.block ?_ | refine Run.blk ?_ | refine Run.skip ?_))
  refine Ops.ldF rfl hFb (by simpa using hx) ?_
  (repeat (first | (apply Ops.q; rfl; rfl) | (apply Ops.gyB; rfl; rfl) | (apply Ops.gnB; rfl; decide) | (apply Ops.add; rfl; rfl; (constructor <;> omega)) | (apply Ops.sub; rfl; rfl; (constructor <;> omega)) | (apply Ops.rem; rfl; rfl; omega; omega) | (apply Ops.quo; rfl; rfl; (constructor <;> omega); omega) | (apply Ops.ld; rfl; (first | exact m0 | exact m1 | exact m2 | exact m3 | exact m4 | exact m5 | exact m6); rfl) | (apply Ops.st0; rfl; rfl; rfl; rfl; (first | exact u0 | exact u1 | exact u2 | exact u3 | exact u4 | exact u5); focus (simp; done)) | refine Ops.nil ?_ | refine Segs.nil ?_ | (apply Segs.oneS; rfl) | refine Run.seq ?_ | refine Run.reg ?_ | refine Run.block ?_ | refine Run.blk ?_ | refine Run.skip ?_))
  refine Ops.cvBS rfl hrx ?_
  (repeat (first | (apply Ops.q; rfl; rfl) | (apply Ops.gyB; rfl; rfl) | (apply Ops.gnB; rfl; decide) | (apply Ops.add; rfl; rfl; (constructor <;> omega)) | (apply Ops.sub; rfl; rfl; (constructor <;> omega)) | (apply Ops.rem; rfl; rfl; omega; omega) | (apply Ops.quo; rfl; rfl; (constructor <;> omega); omega) | (apply Ops.ld; rfl; (first | exact m0 | exact m1 | exact m2 | exact m3 | exact m4 | exact m5 | exact m6); rfl) | (apply Ops.st0; rfl; rfl; rfl; rfl; (first | exact u0 | exact u1 | exact u2 | exact u3 | exact u4 | exact u5); focus (simp; done)) | refine Ops.nil ?_ | refine Segs.nil ?_ | (apply Segs.oneS; rfl) | refine Run.seq ?_ | refine Run.reg ?_ | refine Run.block ?_ | refine Run.blk ?_ | refine Run.skip ?_))
  have hs : ((ByteArray.mk (List.toArray bOne)).toList == (ByteArray.mk #[111, 110, 101]).toList) = true := by rw [ByteArray.toList_eq, ByteArray.toList_eq]; rfl
  simp only [hs]
  (repeat (first | (apply Ops.q; rfl; rfl) | (apply Ops.gyB; rfl; rfl) | (apply Ops.gnB; rfl; decide) | (apply Ops.add; rfl; rfl; (constructor <;> omega)) | (apply Ops.sub; rfl; rfl; (constructor <;> omega)) | (apply Ops.rem; rfl; rfl; omega; omega) | (apply Ops.quo; rfl; rfl; (constructor <;> omega); omega) | (apply Ops.ld; rfl; (first | exact m0 | exact m1 | exact m2 | exact m3 | exact m4 | exact m5 | exact m6); rfl) | (apply Ops.st0; rfl; rfl; rfl; rfl; (first | exact u0 | exact u1 | exact u2 | exact u3 | exact u4 | exact u5); focus (simp; done)) | refine Ops.nil ?_ | refine Segs.nil ?_ | (apply Segs.oneS; rfl) | refine Run.seq ?_ | refine Run.reg ?_ | refine Run.block ?_ | refine Run.blk ?_ | refine Run.skip ?_))
  refine Ops.call1 rfl (.cons s0 (.cons s0 .nil)) (fun F' _ _ => log_Left l4 d L4 D4 (by omega) (by rw [hl4.pos]; decide) F') ?_
  rintro v G ⟨rfl, rfl⟩
  rw [hhf4, hl4.pos]
  simp only [List.cons_append, List.nil_append]
  (repeat (first | (apply Ops.q; rfl; rfl) | (apply Ops.gyB; rfl; rfl) | (apply Ops.gnB; rfl; decide) | (apply Ops.add; rfl; rfl; (constructor <;> omega)) | (apply Ops.sub; rfl; rfl; (constructor <;> omega)) | (apply Ops.rem; rfl; rfl; omega; omega) | (apply Ops.quo; rfl; rfl; (constructor <;> omega); omega) | (apply Ops.ld; rfl; (first | exact m0 | exact m1 | exact m2 | exact m3 | exact m4 | exact m5 | exact m6); rfl) | (apply Ops.st0; rfl; rfl; rfl; rfl; (first | exact u0 | exact u1 | exact u2 | exact u3 | exact u4 | exact u5); focus (simp; done)) | refine Ops.nil ?_ | refine Segs.nil ?_ | (apply Segs.oneS; rfl) | refine Run.seq ?_ | refine Run.reg ?_ | refine Run.block ?_ | refine Run.blk ?_ | refine Run.skip ?_))
  refine Ops.call1 rfl .nil (fun F' _ _ => log_Room 47 (by decide) F') ?_
  rintro v G ⟨rfl, rfl⟩
  simp only [List.nil_append]
  (repeat (first | (apply Ops.q; rfl; rfl) | (apply Ops.gyB; rfl; rfl) | (apply Ops.gnB; rfl; decide) | (apply Ops.add; rfl; rfl; (constructor <;> omega)) | (apply Ops.sub; rfl; rfl; (constructor <;> omega)) | (apply Ops.rem; rfl; rfl; omega; omega) | (apply Ops.quo; rfl; rfl; (constructor <;> omega); omega) | (apply Ops.ld; rfl; (first | exact m0 | exact m1 | exact m2 | exact m3 | exact m4 | exact m5 | exact m6); rfl) | (apply Ops.st0; rfl; rfl; rfl; rfl; (first | exact u0 | exact u1 | exact u2 | exact u3 | exact u4 | exact u5); focus (simp; done)) | refine Ops.nil ?_ | refine Segs.nil ?_ | (apply Segs.oneS; rfl) | refine Run.seq ?_ | refine Run.reg ?_ | refine Run.block ?_ | refine Run.blk ?_ | refine Run.skip ?_))
  refine Ops.call1 rfl .nil (fun F' _ _ => log_Room 48 (by decide) F') ?_
  rintro v G ⟨rfl, rfl⟩
  simp only [List.nil_append]
  (repeat (first | (apply Ops.q; rfl; rfl) | (apply Ops.gyB; rfl; rfl) | (apply Ops.gnB; rfl; decide) | (apply Ops.add; rfl; rfl; (constructor <;> omega)) | (apply Ops.sub; rfl; rfl; (constructor <;> omega)) | (apply Ops.rem; rfl; rfl; omega; omega) | (apply Ops.quo; rfl; rfl; (constructor <;> omega); omega) | (apply Ops.ld; rfl; (first | exact m0 | exact m1 | exact m2 | exact m3 | exact m4 | exact m5 | exact m6); rfl) | (apply Ops.st0; rfl; rfl; rfl; rfl; (first | exact u0 | exact u1 | exact u2 | exact u3 | exact u4 | exact u5); focus (simp; done)) | refine Ops.nil ?_ | refine Segs.nil ?_ | (apply Segs.oneS; rfl) | refine Run.seq ?_ | refine Run.reg ?_ | refine Run.block ?_ | refine Run.blk ?_ | refine Run.skip ?_))
  exact Run.ret1 Try.func7 rfl rfl (fun h q => take_sub .nil h q) ⟨rfl, rfl⟩
end Eng
end Go.Proofs.Ytbhlolmglieehaa

/- Lists of things that can be read in the frame; rows that are turned in place; a log with no room. -/
set_option linter.unusedSimpArgs false
set_option linter.unusedVariables false
namespace Go.Proofs.Ytbhlolmglieehaa

theorem append_full {L : LogS} {D : DiskS} {b : Bytes} (hdead : L.dead = false) (hb : b.length ≤ 4096) (hroom : D.hf < L.pos + sectorsOf b.length) : L.append D b = (7, L, D) := by
  unfold LogS.append
  rw [if_neg (by simp [hdead]), if_neg (by omega), if_pos (by omega)]

namespace Eng
section
variable {P : Program} {F : Hp} {l : Fr} {H : List HA} {C : Fr → List HA → Prop} {es : List EG} {i d : Nat} {c : Bool}

/-- an int under a mask -/
theorem Ops.mask {x y : Operand} {a : Int} (m : Nat) (hx : get l x = some (.int .i64 a)) (hy : get l y = some (.int .i64 (m : Int))) (hm : m < 9223372036854775808)
    (kk : ∀ n : Nat, n ≤ m → Ops P F es ((d, .int .i64 (n : Int)) :: l) H C) : Ops P F (EG.mk i (some d) none c (.bin .and x y) :: es) l H C := by
  refine Ops.p ?_ (kk (BitVec.ofInt 64 a &&& BitVec.ofInt 64 (m : Int)).toNat ?_)
  · simp only [pv, hx, hy, binVal, if_true]
    have hle : (BitVec.ofInt 64 a &&& BitVec.ofInt 64 (m : Int)).toNat ≤ m := by
      rw [BitVec.toNat_and, bv_nat (show m < 2 ^ 64 by omega)]; exact Nat.and_le_right
    show some (Value.int .i64 (IntKind.i64.wrap ((BitVec.ofInt 64 a &&& BitVec.ofInt 64 (m : Int)).toNat : Int))) = _
    rw [wrap_i64 (by omega) (by omega)]
  · rw [BitVec.toNat_and, bv_nat (show m < 2 ^ 64 by omega)]; exact Nat.and_le_right
end

/-- a slice whose elements, of s cells each, are as Q says -/
def RdL {α : Type} (F : Hp) (s : Nat) (Q : List Value → α → Prop) (v : Value) (xs : List α) : Prop := ∃ a c, v = .slice a xs.length c ∧
  (xs = [] ∨ ∃ b o L T fz, a = some ⟨b, o, none⟩ ∧ F b = some (.cells (List.toArray L) T fz) ∧ o + xs.length * s ≤ L.length ∧ ∀ i x, xs[i]? = some x → Q ((L.drop (o + i * s)).take s) x)

theorem RdL.mono {α : Type} {F F' : Hp} {s : Nat} {Q Q' : List Value → α → Prop} {v : Value} {xs : List α} (h : RdL F s Q v xs) (e : Ext F F') (q : ∀ cs x, Q cs x → Q' cs x) : RdL F' s Q' v xs := by
  obtain ⟨a, c, rfl, h | ⟨b, o, L, T, fz, ha, hF, hl, hq⟩⟩ := h
  · exact ⟨a, c, rfl, .inl h⟩
  · exact ⟨a, c, rfl, .inr ⟨b, o, L, T, fz, ha, e _ _ hF, hl, fun i x hx => q _ _ (hq i x hx)⟩⟩

/-- one value whose bytes can be read -/
def Rd1 (F : Hp) (cs : List Value) (bs : Bytes) : Prop := ∃ v, cs = [v] ∧ RdB F v bs
theorem Rd1.ext {F F' : Hp} (e : Ext F F') {cs : List Value} {bs : Bytes} (h : Rd1 F cs bs) : Rd1 F' cs bs := by
  obtain ⟨v, h1, h2⟩ := h; exact ⟨v, h1, h2.ext e⟩

theorem one_at {L : List Value} {n : Nat} {v : Value} (h : (L.drop n).take 1 = [v]) : L[n]? = some v := by
  have := congrArg (fun l => l[0]?) h
  simpa [List.getElem?_take] using this

theorem RdL.bb {F : Hp} {v : Value} {bss : List Bytes} (h : RdL F 1 (Rd1 F) v bss) : RdBB F v bss := by
  obtain ⟨a, c, rfl, h | ⟨b, o, L, T, fz, ha, hF, hl, hq⟩⟩ := h
  · exact ⟨a, c, rfl, .inl h⟩
  · refine ⟨a, c, rfl, .inr ⟨b, o, L, T, fz, ha, hF, by omega, fun i bs hi => ?_⟩⟩
    obtain ⟨v, h1, h2⟩ := hq i bs hi
    rw [Nat.mul_one] at h1
    exact ⟨v, one_at h1, h2⟩

theorem RowsI.pull {vs : List Value} {bss : List Bytes} {G : List HA} (h : RowsI vs bss G) : ∀ (i : Nat) (v : Value) (b : Bytes), vs[i]? = some v → bss[i]? = some b →
    ∃ G1 Gi G2, RowI v b Gi ∧ G = G1 ++ (Gi ++ G2) ∧ ∀ b' Gi', RowI v b' Gi' → RowsI vs (bss.set i b') (G1 ++ (Gi' ++ G2)) := by
  induction h with
  | nil => intro i v b h; simp at h
  | @cons v0 vs b0 bss G Gs hr hs ih =>
    intro i v b hv hb
    cases i with
    | zero =>
      simp only [List.getElem?_cons_zero, Option.some.injEq] at hv hb
      subst hv; subst hb
      exact ⟨[], G, Gs, hr, rfl, fun b' Gi' h => (show RowsI (v0 :: vs) (b' :: bss) (Gi' ++ Gs) from .cons h hs)⟩
    | succ i =>
      obtain ⟨G1, Gi, G2, h1, h2, h3⟩ := ih i v b (by simpa using hv) (by simpa using hb)
      refine ⟨G ++ G1, Gi, G2, h1, by rw [h2, List.append_assoc], fun b' Gi' h => ?_⟩
      rw [List.append_assoc]
      exact .cons hr (h3 b' Gi' h)

/-- what is left of rows, one of which was taken out -/
def RestI (vs : List Value) (bss : List Bytes) (i : Nat) (v : Value) (G : List HA) : Prop := ∃ G1 G2, G = G1 ++ G2 ∧ ∀ b' Gi', RowI v b' Gi' → RowsI vs (bss.set i b') (G1 ++ (Gi' ++ G2))

theorem seps_comm {A B : List HA} : ∀ h, seps (A ++ B) h → seps (B ++ A) h := fun h q => by
  obtain ⟨x, y, sp, qx, qy⟩ := seps_append.1 q
  exact seps_append.2 ⟨y, x, sp.symm, qy, qx⟩

theorem seps_mid {A B C : List HA} : ∀ h, seps (A ++ (B ++ C)) h → seps (B ++ (A ++ C)) h := fun h q => by
  rw [← List.append_assoc] at q ⊢
  obtain ⟨x, y, sp, qx, qy⟩ := seps_append.1 q
  exact seps_append.2 ⟨x, y, sp, seps_comm _ qx, qy⟩

theorem rows_pull {vs : List Value} {bss : List Bytes} {i : Nat} {v : Value} {b : Bytes} {H : List HA} (hv : vs[i]? = some v) (hb : bss[i]? = some b) : ∀ h, seps (RowsP vs bss :: H) h → seps (RowP v b :: grp (RestI vs bss i v) :: H) h := by
  rintro h ⟨x, y, sp, ⟨G, hG, qG⟩, qr⟩
  obtain ⟨G1, Gi, G2, h1, rfl, h3⟩ := hG.pull i v b hv hb
  have q := seps_mid _ qG
  obtain ⟨x1, x2, sp1, q1, q2⟩ := seps_append.1 q
  have ⟨u, w⟩ := sp.assoc' sp1
  exact ⟨x1, _, u, ⟨Gi, h1, q1⟩, x2, y, w, ⟨_, ⟨G1, G2, rfl, h3⟩, q2⟩, qr⟩

theorem rows_push {vs : List Value} {bss : List Bytes} {i : Nat} {v : Value} {b : Bytes} {H : List HA} : ∀ h, seps (RowP v b :: grp (RestI vs bss i v) :: H) h → seps (RowsP vs (bss.set i b) :: H) h := by
  rintro h ⟨x1, y1, sp1, ⟨Gi, h1, q1⟩, x2, y, sp2, ⟨G, ⟨G1, G2, rfl, h3⟩, q2⟩, qr⟩
  have ⟨u, w⟩ := sp1.assoc sp2
  exact ⟨_, y, u, ⟨_, h3 b Gi h1, seps_mid _ (seps_append.2 ⟨x1, x2, w, q1, q2⟩)⟩, qr⟩

/-- an operation on a log, as the statements have it -/
structure LOp where
  kind : Int
  num : Int
  b : Bytes
  keeps : Nat
def RdOp (F : Hp) (cs : List Value) (o : LOp) : Prop := ∃ v, cs = [.int .i64 o.kind, .int .i64 o.num, v, .int .u64 o.keeps] ∧ RdB F v o.b
theorem RdOp.ext {F F' : Hp} (e : Ext F F') {cs : List Value} {o : LOp} (h : RdOp F cs o) : RdOp F' cs o := by
  obtain ⟨v, h1, h2⟩ := h; exact ⟨v, h1, h2.ext e⟩

end Eng
end Go.Proofs.Ytbhlolmglieehaa

/- What came in is read: bytes, rows, lists. -/
set_option linter.unusedSimpArgs false
set_option linter.unusedVariables false
namespace Go.Proofs.Ytbhlolmglieehaa
open Go.ChangeShapes Go.WideShapes Go.ChangeAt Go.RowKit

namespace Eng
section
variable {H : Type} {enc : TypeId × Value → H} {P : Program} {w : World} {base : Nat} {sp : Nat → Bool} {held : Bool}

theorem pick_list {α : Type} {q : Nat → α → Prop} : ∀ n, (∀ i, i < n → ∃ x, q i x) → ∃ xs : List α, xs.length = n ∧ ∀ i x, xs[i]? = some x → q i x := by
  intro n
  induction n with
  | zero => intro _; exact ⟨[], rfl, fun i x h => by simp at h⟩
  | succ n ih =>
    intro h
    obtain ⟨xs, h1, h2⟩ := ih fun i hi => h i (by omega)
    obtain ⟨x, hx⟩ := h n (by omega)
    refine ⟨xs ++ [x], by simp [h1], fun i y hy => ?_⟩
    by_cases hi : i < xs.length
    · rw [List.getElem?_append_left hi] at hy; exact h2 i y hy
    · rw [List.getElem?_append_right (by omega)] at hy
      by_cases h0 : i - xs.length = 0
      · rw [h0] at hy; simp at hy; subst hy; rw [show i = n by omega]; exact hx
      · rw [List.getElem?_eq_none (by simp; omega)] at hy; cases hy

theorem cell_pt {a : Addr} {v : Value} (h : w.cell? a = some v) : ∃ b o L T fz, a = ⟨b, o, none⟩ ∧ w.heap[b]? = some (.cells (List.toArray L) T fz) ∧ L[o]? = some v := by
  unfold World.cell? at h
  split at h
  · rename_i c T fz hb
    split at h
    · cases h
    · rename_i hs
      obtain ⟨b, o, s⟩ := a
      cases s with
      | none => exact ⟨b, o, c.toList, T, fz, rfl, by simpa using hb, by simpa using h⟩
      | some s => simp at hs
  · cases h

theorem arg_list {α : Type} {t e : TypeId} {s : Nat} (Q : List Value → α → Prop) (ht : P.underlying t = some (.slice e)) (hs : P.cellsOf e = s) (hpos : 0 < s)
    (hel : ∀ n cs y, DataW.trod enc P w base sp held n e cs = some y → ∃ x, Q cs x) {fuel : Nat} {cs : List Value} {x : DataW H × List MemPlace} (h : DataW.trod enc P w base sp held fuel t cs = some x) :
    ∃ v xs, cs = [v] ∧ RdL (fun n => w.heap[n]?) s Q v xs := by
  rcases DataW.trod_slice ht h with ⟨rfl, _⟩ | ⟨a, len, cap, elems, rest, n, _, rfl, _, _, _, _, hlen, hE, _, _⟩
  · exact ⟨_, [], rfl, none, 0, rfl, .inl rfl⟩
  · rw [hs] at hE
    have hq : ∀ i, i < len → ∃ x, (∃ ci, w.cells? base (a.add (i * s)) s = some ci ∧ Q ci x) := by
      intro i hi
      have h1 := hE i hi
      have : elems[i]? = some elems[i] := List.getElem?_eq_getElem (by omega)
      rw [this, Option.bind_eq_some_iff] at h1
      obtain ⟨ci, h2, h3⟩ := h1
      obtain ⟨x, hx⟩ := hel _ _ _ h3
      exact ⟨x, ci, h2, hx⟩
    obtain ⟨xs, hx1, hx2⟩ := pick_list len hq
    refine ⟨_, xs, rfl, some a, cap, by rw [hx1], ?_⟩
    by_cases h0 : len = 0
    · left; exact List.length_eq_zero_iff.1 (by omega)
    right
    have cell : ∀ i, i < len → ∀ j, j < s → ∃ v, w.cell? ((a.add (i * s)).add j) = some v := by
      intro i hi j hj
      obtain ⟨x, ci, h1, _⟩ := hq i hi
      have h2 := World.cells?_some h1
      exact ⟨ci[j]'(by omega), by rw [h2.2.2 j hj]; exact List.getElem?_eq_getElem (by omega)⟩
    obtain ⟨v0, hv0⟩ := cell 0 (by omega) 0 hpos
    have ha0 : (a.add (0 * s)).add 0 = a := by simp [Addr.add]
    rw [ha0] at hv0
    obtain ⟨b, o, L, T, fz, rfl, hb, _⟩ := cell_pt hv0
    have hadd : ∀ i j, ((⟨b, o, none⟩ : Addr).add (i * s)).add j = ⟨b, o + i * s + j, none⟩ := by
      intro i j; rw [add_mk, add_mk]
    have hget : ∀ k, w.cell? ⟨b, k, none⟩ = L[k]? := by intro k; simp [World.cell?, hb]
    have hle : o + len * s ≤ L.length := by
      obtain ⟨v, hv⟩ := cell (len - 1) (by omega) (s - 1) (by omega)
      rw [hadd, hget] at hv
      have h1 : o + (len - 1) * s + (s - 1) < L.length := by
        rcases Nat.lt_or_ge (o + (len - 1) * s + (s - 1)) L.length with h | h
        · exact h
        · rw [List.getElem?_eq_none h] at hv; cases hv
      have h2 : len * s = (len - 1) * s + s := by
        obtain ⟨m, rfl⟩ : ∃ m, len = m + 1 := ⟨len - 1, by omega⟩
        rw [Nat.add_sub_cancel, Nat.add_mul, Nat.one_mul]
      omega
    refine ⟨b, o, L, T, fz, rfl, hb, by rw [hx1]; exact hle, fun i x hx => ?_⟩
    obtain ⟨ci, h1, h2⟩ := hx2 i x hx
    have hi : i < len := by
      rcases Nat.lt_or_ge i xs.length with h | h
      · omega
      · rw [List.getElem?_eq_none h] at hx; cases hx
    have h3 := World.cells?_some h1
    have h4 : (i + 1) * s ≤ len * s := Nat.mul_le_mul_right s hi
    have h5 : (i + 1) * s = i * s + s := by rw [Nat.add_mul, Nat.one_mul]
    have : (L.drop (o + i * s)).take s = ci := by
      apply List.ext_getElem?
      intro j
      rw [List.getElem?_take, List.getElem?_drop]
      split
      · rename_i hj
        have := h3.2.2 j hj
        rw [hadd, hget] at this; exact this
      · rename_i hj
        rw [List.getElem?_eq_none (by omega)]
    rw [this]; exact h2

/-- one byte -/
def Rd8 (cs : List Value) (b : UInt8) : Prop := cs = [bv b]

theorem trod_byte {e : TypeId} (he : P.underlying e = some (.int .u8)) (n : Nat) (cs : List Value) (y : DataW H × List MemPlace) (h : DataW.trod enc P w base sp held n e cs = some y) : ∃ b, Rd8 cs b := by
  obtain ⟨m, rfl, _, hw⟩ := DataW.trod_int he h
  simp only [Lit.wf, IntKind.min, IntKind.max, IntKind.signed, IntKind.bits, Bool.and_eq_true, decide_eq_true_eq] at hw
  have h2 : 0 ≤ m ∧ m < 256 := by
    obtain ⟨a, b⟩ := hw
    constructor
    · simpa using a
    · have : m ≤ 255 := by simpa using b
      omega
  refine ⟨UInt8.ofNat m.toNat, ?_⟩
  unfold Rd8 bv
  have : ((UInt8.ofNat m.toNat).toNat : Int) = m := by
    rw [UInt8.toNat_ofNat', Nat.mod_eq_of_lt (by omega)]; omega
  rw [this]

theorem rdl_bytes {F : Hp} {v : Value} {bs : Bytes} (h : RdL F 1 Rd8 v bs) : RdB F v bs := by
  obtain ⟨a, c, rfl, h | ⟨b, o, L, T, fz, ha, hF, hl, hq⟩⟩ := h
  · exact ⟨a, c, rfl, .inl h⟩
  · refine ⟨a, c, rfl, .inr ⟨b, o, L, T, fz, ha, hF, by omega, ?_⟩⟩
    apply List.ext_getElem?
    intro j
    rw [List.getElem?_take, List.getElem?_drop]
    unfold bvs
    rw [List.getElem?_map]
    by_cases hj : j < bs.length
    · have e := List.getElem?_eq_getElem hj
      have h1 := hq j _ e
      rw [Nat.mul_one] at h1
      rw [if_pos hj, e, one_at h1]; rfl
    · rw [if_neg hj, List.getElem?_eq_none (by omega)]; rfl

theorem arg_bytes {t e : TypeId} (ht : P.underlying t = some (.slice e)) (he : P.underlying e = some (.int .u8)) (hs : P.cellsOf e = 1) (n : Nat) (cs : List Value) (y : DataW H × List MemPlace)
    (h : DataW.trod enc P w base sp held n t cs = some y) : ∃ bs, Rd1 (fun n => w.heap[n]?) cs bs := by
  obtain ⟨v, xs, rfl, hr⟩ := arg_list Rd8 ht hs (by decide) (trod_byte he) h
  exact ⟨xs, v, rfl, rdl_bytes hr⟩

theorem arg_rows {t u e : TypeId} (ht : P.underlying t = some (.slice u)) (hs : P.cellsOf u = 1) (hu : P.underlying u = some (.slice e)) (he : P.underlying e = some (.int .u8)) (hs1 : P.cellsOf e = 1) (n : Nat) (cs : List Value) (y : DataW H × List MemPlace)
    (h : DataW.trod enc P w base sp held n t cs = some y) : ∃ bss v, cs = [v] ∧ RdBB (fun n => w.heap[n]?) v bss := by
  obtain ⟨v, xs, rfl, hr⟩ := arg_list (Rd1 fun n => w.heap[n]?) ht hs (by decide) (fun n cs y h => arg_bytes hu he hs1 n cs y h) h
  exact ⟨xs, v, rfl, hr.bb⟩

theorem trod_num {e : TypeId} {k : IntKind} (he : P.underlying e = some (.int k)) (n : Nat) (cs : List Value) (y : DataW H × List MemPlace) (h : DataW.trod enc P w base sp held n e cs = some y) : ∃ m, cs = [.int k m] ∧ (Lit.int k m).wf = true := by
  obtain ⟨m, rfl, _, hw⟩ := DataW.trod_int he h
  exact ⟨m, rfl, hw⟩

theorem wf_u64 {m : Int} (h : (Lit.int .u64 m).wf = true) : ∃ n : Nat, m = (n : Int) ∧ n < 2 ^ 64 := by
  simp only [Lit.wf, IntKind.min, IntKind.max, IntKind.signed, IntKind.bits, Bool.and_eq_true, decide_eq_true_eq] at h
  obtain ⟨a, b⟩ := h
  have h1 : 0 ≤ m := by simpa using a
  have h2 : m ≤ 2 ^ 64 - 1 := by simpa using b
  exact ⟨m.toNat, by omega, by omega⟩
end

/-- a contract that reads what is there, and owns nothing of it -/
theorem Spec.calls {P : Program} {f : FuncId} {args : Array Value} {W : World} {R : Value → Prop} (s : Eng.Spec P f args (fun n => W.heap[n]?) [] fun v H => R v ∧ H = []) :
    Calls P f args W fun e W' => ∃ v, e = .returned v ∧ R v ∧ Below W.heap.size W W' := by
  unfold Eng.Spec at s
  refine (s W Eng.noHp trivial ⟨fun n => .inl rfl, fun n o h => (by cases h), fun n o h => h⟩).mono ?_
  rintro e w' ⟨v, H', h', he, ⟨hr, _⟩, _, k, kp⟩
  refine ⟨v, he, hr, kp.os, kp.tape, kp.output, kp.size, fun n hn => ?_⟩
  have : W.heap[n]? = some W.heap[n] := by simp [hn]
  rw [this]
  exact k.frm n _ this
end Eng

section
variable {H : Type} {enc : TypeId × Value → H} {P : Program}
theorem post_below {f : Func} {s : ChangeSpec} {apart fresh handsOn again : Bool} {W W' : World} {args : Array Value} {v : Value} {ds gs : List (DataW H)} {before pa pv : List MemPlace}
    (hW : DataW.Whole enc P f.params.toList s.vars apart W args.toList ds gs before)
    (hres : ∀ (b : Nat) (sp : Nat → Bool) (hd : Bool), DataW.TrodAll enc P W' b sp hd f.resultTypes.toList (v.resultList f.resultTypes.size) (s.fn H (ds ++ gs)).results [])
    (hargs : ∀ sp : Nat → Bool, (∀ p ∈ before, sp p.block = true) → DataW.TrodAll enc P W' 0 sp true f.params.toList args.toList (s.fn H (ds ++ gs)).args pa)
    (hvars : ∀ sp : Nat → Bool, (∀ p ∈ before, sp p.block = true) → DataW.TrodVars enc P W' sp s.vars (s.fn H (ds ++ gs)).vars pv)
    (hps : before = pa ++ pv) (hb : Below W.heap.size W W')
    (hok : ∀ (j : Nat) (t : TypeId) (r : Value), f.resultTypes[j]? = some t → (v.resultList f.resultTypes.size)[j]? = some r → Value.okWide P W' .any 0 t r) :
    s.post enc P f apart fresh handsOn again W args v W' := by
  have hlt : ∀ p ∈ before, p.block < W.heap.size := fun p hp => hW.lt p hp
  have hold : ∀ p ∈ before, (fun b => decide (b < W.heap.size)) p.block = true := fun p hp => by simpa using hlt p hp
  refine ⟨ds, gs, before, [], pa, pv, hW, hres _ _ _, hargs _ hold, hvars _ hold, World.keptBut_mono (fun p hp => ⟨hp, ?_⟩) (hb.frame (· ∈ before)), fun _ => ?_⟩
  · rw [hps, List.mem_append] at hp
    exact Or.inr hp
  · obtain ⟨_, _, _, _, _, hz, hn⟩ := hW
    refine ⟨hok, _, _, ([] ++ pa) ++ pv, ⟨[] ++ pa, pv, trodAll_append (hargs _ (fun _ _ => rfl)) (hres _ _ _), hvars _ (fun _ _ => rfl), rfl, ?_, ?_⟩, ?_⟩
    · intro b off hp
      have hin : MemPlace.cell b off ∈ before := by rw [hps]; simpa using hp
      rw [hb.frozen (hlt _ hin)]
      exact hz b off hin
    · intro ha
      have := hn ha
      rw [hps] at this
      simpa using this
    · intro p hp _
      rw [hps]
      simpa using hp
end

section
variable {H : Type} {enc : TypeId × Value → H} {P : Program}

theorem trodAll_stays (hl : laidOutB P = true) {W W' : World} {sp' : Nat → Bool} (hb : Below W.heap.size W W') : ∀ {ts : List TypeId} {vs : List Value} {ds : List (DataW H)} {ps : List MemPlace}, (∀ t ∈ ts, P.readableRec t = true ∧ t < P.types.size) →
    DataW.TrodAll enc P W 0 (fun _ => true) true ts vs ds ps → (∀ p ∈ ps, p.block < W.heap.size) → (∀ p ∈ ps, sp' p.block = true) → DataW.TrodAll enc P W' 0 sp' true ts vs ds ps
  | [], _, _, _, _, h, _, _ => by
    obtain ⟨rfl, rfl, rfl⟩ := trodAll_nil h
    exact trodAll_mk0
  | t :: ts, _, _, _, ht, h, h1, h2 => by
    obtain ⟨v, vs, d, ds, p, q, rfl, rfl, rfl, ha, hr⟩ := trodAll_cons h
    refine trodAll_cons_mk (WideElems.Trod_stays hl (ht t (.head _)).1 (ht t (.head _)).2 ha (fun x hx => hb.same (h1 x (List.mem_append_left _ hx))) (fun x hx => h2 x (List.mem_append_left _ hx))) ?_
    exact trodAll_stays hl hb (fun u hu => ht u (.tail _ hu)) hr (fun x hx => h1 x (List.mem_append_right _ hx)) (fun x hx => h2 x (List.mem_append_right _ hx))

theorem val_int {W : World} {b : Nat} {t : TypeId} {k : IntKind} {v : Value} (ht : P.underlying t = some (.int k)) (hval : Value.okWide P W .any b t v) : ∃ n, v = .int k n ∧ (Lit.int k n).wf = true := by
  simp only [Value.okWide, ht, Cell.okWide, Cell.ok] at hval
  split at hval <;> simp_all [IntKind.has, Lit.wf]

theorem val_u64 {W : World} {b : Nat} {t : TypeId} {v : Value} (ht : P.underlying t = some (.int .u64)) (hval : Value.okWide P W .any b t v) : ∃ n : Nat, v = .int .u64 (n : Int) ∧ n < 2 ^ 64 := by
  obtain ⟨m, rfl, hw⟩ := val_int ht hval
  obtain ⟨n, rfl, hn⟩ := Eng.wf_u64 hw
  exact ⟨n, rfl, hn⟩

theorem val_slice {W : World} {b : Nat} {t e : TypeId} {v : Value} (ht : P.underlying t = some (.slice e)) (hval : Value.okWide P W .any b t v) : v.cells.toList = [v] := by
  simp only [Value.okWide, ht, Cell.okWide, Cell.ok] at hval
  cases v <;> simp_all [Value.cells]

end
end Go.Proofs.Ytbhlolmglieehaa
