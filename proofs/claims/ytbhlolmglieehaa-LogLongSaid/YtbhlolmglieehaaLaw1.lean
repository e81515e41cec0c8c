/- The statements' helpers: lists that are the same. -/
import Derived.Test.YtbhlolmglieehaaLog11
import Derived.Laws.Strings
set_option linter.unusedSimpArgs false
set_option linter.unusedVariables false
namespace Go.Proofs.Ytbhlolmglieehaa
namespace Eng

section
variable {P : Program} {F : Hp} {l : Fr} {H : List HA} {C : Fr → List HA → Prop} {es : List EG} {i d : Nat} {c : Bool}

theorem Ops.cvBS {x : Operand} {v : Value} {bs : Bytes} (hx : get l x = some v) (hr : RdB F v bs) (k : Ops P F es ((d, .string ⟨bs.toArray⟩) :: l) H C) : Ops P F (EG.mk i (some d) none c (.cvBS x) :: es) l H C :=
  Ops.any (fun ρ w Q ag f q => by
    obtain ⟨a, c, rfl, h⟩ := hr
    refine ⟨a, c, bs, ag _ _ hx, ?_, q⟩
    rw [ag _ _ hx]
    rcases h with h | ⟨b, o, L, T, fz, rfl, hF, hl, ht⟩
    · subst h
      cases a with
      | none => rfl
      | some a => exact .inl ⟨rfl, rfl⟩
    · exact .inr ⟨rfl, L, T, fz, f _ _ hF, by rw [Nat.mul_one]; exact hl, by rw [Nat.mul_one, ht]; rfl⟩) k
end

attribute [local irreducible] Ops Segs Run Spec

theorem law_same (u v : Value) (xs ys : List Bytes) (F : Hp) (hx : RdBB F u xs) (hy : RdBB F v ys) (hn : xs.length ≤ 1099511627) :
    Spec Try.prog 13 [u, v].toArray F [] fun r H => r = .bool (decide (xs = ys)) ∧ H = [] := by
  obtain ⟨oa, oc, rfl, hx⟩ := hx
  obtain ⟨pa, pc, rfl, hy⟩ := hy
  refine Spec.enter (n := 28) Try.func13 ok_law04_same rfl (by simp) ?_
  unfold ec_law04_same
  simp only [argFr, Nat.reduceAdd]
  (repeat (first | (apply Ops.q; rfl; rfl) | (apply Ops.gyB; rfl; rfl) | (apply Ops.gnB; rfl; decide) | (apply Ops.add; rfl; rfl; (constructor <;> omega)) | (apply Ops.sub; rfl; rfl; (constructor <;> omega)) | (apply Ops.rem; rfl; rfl; omega; omega) | (apply Ops.quo; rfl; rfl; (constructor <;> omega); omega) | (apply Ops.ld; rfl; (first | exact m0 | exact m1 | exact m2 | exact m3 | exact m4 | exact m5 | exact m6); rfl) | (apply Ops.st0; rfl; rfl; rfl; rfl; (first | exact u0 | exact u1 | exact u2 | exact u3 | exact u4 | exact u5); focus (simp; done)) | refine Ops.nil ?_ | refine Segs.nil ?_ | (apply Segs.oneS; rfl) | refine Run.seq ?_ | refine Run.reg ?_ | refine Run.block ?_ | refine Run.blk ?_ | refine Run.skip ?_))
  by_cases hl : xs.length = ys.length
  case neg =>
    have hne : xs ≠ ys := fun e => hl (by rw [e])
    refine Run.condT (by simp [get, look]; omega) ?_
    (repeat (first | (apply Ops.q; rfl; rfl) | (apply Ops.gyB; rfl; rfl) | (apply Ops.gnB; rfl; decide) | (apply Ops.add; rfl; rfl; (constructor <;> omega)) | (apply Ops.sub; rfl; rfl; (constructor <;> omega)) | (apply Ops.rem; rfl; rfl; omega; omega) | (apply Ops.quo; rfl; rfl; (constructor <;> omega); omega) | (apply Ops.ld; rfl; (first | exact m0 | exact m1 | exact m2 | exact m3 | exact m4 | exact m5 | exact m6); rfl) | (apply Ops.st0; rfl; rfl; rfl; rfl; (first | exact u0 | exact u1 | exact u2 | exact u3 | exact u4 | exact u5); focus (simp; done)) | refine Ops.nil ?_ | refine Segs.nil ?_ | (apply Segs.oneS; rfl) | refine Run.seq ?_ | refine Run.reg ?_ | refine Run.block ?_ | refine Run.blk ?_ | refine Run.skip ?_))
    exact Run.ret1 Try.func13 rfl rfl (fun h q => q) ⟨by simp [hne], rfl⟩
  refine Run.condF (by simp [get, look]; omega) ?_
  (repeat (first | (apply Ops.q; rfl; rfl) | (apply Ops.gyB; rfl; rfl) | (apply Ops.gnB; rfl; decide) | (apply Ops.add; rfl; rfl; (constructor <;> omega)) | (apply Ops.sub; rfl; rfl; (constructor <;> omega)) | (apply Ops.rem; rfl; rfl; omega; omega) | (apply Ops.quo; rfl; rfl; (constructor <;> omega); omega) | (apply Ops.ld; rfl; (first | exact m0 | exact m1 | exact m2 | exact m3 | exact m4 | exact m5 | exact m6); rfl) | (apply Ops.st0; rfl; rfl; rfl; rfl; (first | exact u0 | exact u1 | exact u2 | exact u3 | exact u4 | exact u5); focus (simp; done)) | refine Ops.nil ?_ | refine Segs.nil ?_ | (apply Segs.oneS; rfl) | refine Run.seq ?_ | refine Run.reg ?_ | refine Run.block ?_ | refine Run.blk ?_ | refine Run.skip ?_))
  refine Run.loopI (ι := Nat) (fun x => xs.length - x) (fun x => x ≤ xs.length ∧ decide (xs = ys) = decide (xs.drop x = ys.drop x))
    (fun x => [(14, .int .i64 x), (13, .int .i64 xs.length), (12, .slice oa xs.length oc), (1, .slice pa ys.length pc)]) (fun _ => [])
    0 ⟨Nat.zero_le _, rfl⟩ (.cons rfl (.cons rfl (.cons rfl (.cons rfl .nil)))) (fun _ h => h) ?_
  rintro i ⟨hi, hdec⟩ ih
  try dsimp only at hi hdec ih ⊢
  unfold ec_law04_same_L0
  (repeat (first | (apply Ops.q; rfl; rfl) | (apply Ops.gyB; rfl; rfl) | (apply Ops.gnB; rfl; decide) | (apply Ops.add; rfl; rfl; (constructor <;> omega)) | (apply Ops.sub; rfl; rfl; (constructor <;> omega)) | (apply Ops.rem; rfl; rfl; omega; omega) | (apply Ops.quo; rfl; rfl; (constructor <;> omega); omega) | (apply Ops.ld; rfl; (first | exact m0 | exact m1 | exact m2 | exact m3 | exact m4 | exact m5 | exact m6); rfl) | (apply Ops.st0; rfl; rfl; rfl; rfl; (first | exact u0 | exact u1 | exact u2 | exact u3 | exact u4 | exact u5); focus (simp; done)) | refine Ops.nil ?_ | refine Segs.nil ?_ | (apply Segs.oneS; rfl) | refine Run.seq ?_ | refine Run.reg ?_ | refine Run.block ?_ | refine Run.blk ?_ | refine Run.skip ?_))
  refine Run.condD rfl (fun hlt => ?_) (fun hge => ?_)
  · have h1 : i < xs.length := by omega
    have h2 : i < ys.length := by omega
    have e1 : xs[i]? = some xs[i] := List.getElem?_eq_getElem h1
    have e2 : ys[i]? = some ys[i] := List.getElem?_eq_getElem h2
    rw [List.drop_eq_getElem_cons h1, List.drop_eq_getElem_cons h2] at hdec
    generalize xs[i] = b at *
    generalize ys[i] = b' at *
    rcases hx with hx | ⟨ob, o, L, T, fz, rfl, hF, hl1, hrd⟩
    · rw [hx] at h1; simp at h1
    rcases hy with hy | ⟨ob', o', L', T', fz', rfl, hF', hl1', hrd'⟩
    · rw [hy] at h2; simp at h2
    obtain ⟨x, hx, hrx⟩ := hrd i _ e1
    obtain ⟨y, hy, hry⟩ := hrd' i _ e2
    (repeat (first | (apply Ops.q; rfl; rfl) | (apply Ops.gyB; rfl; rfl) | (apply Ops.gnB; rfl; decide) | (apply Ops.add; rfl; rfl; (constructor <;> omega)) | (apply Ops.sub; rfl; rfl; (constructor <;> omega)) | (apply Ops.rem; rfl; rfl; omega; omega) | (apply Ops.quo; rfl; rfl; (constructor <;> omega); omega) | (apply Ops.ld; rfl; (first | exact m0 | exact m1 | exact m2 | exact m3 | exact m4 | exact m5 | exact m6); rfl) | (apply Ops.st0; rfl; rfl; rfl; rfl; (first | exact u0 | exact u1 | exact u2 | exact u3 | exact u4 | exact u5); focus (simp; done)) | refine Ops.nil ?_ | refine Segs.nil ?_ | (apply Segs.oneS; rfl) | refine Run.seq ?_ | refine Run.reg ?_ | refine Run.block ?_ | refine Run.blk ?_ | refine Run.skip ?_))
    refine Ops.ixS rfl rfl ⟨by omega, by omega⟩ ?_
    refine Ops.ldF rfl hF (by rw [Int.toNat_natCast, Nat.mul_one]; exact hx) ?_
    (repeat (first | (apply Ops.q; rfl; rfl) | (apply Ops.gyB; rfl; rfl) | (apply Ops.gnB; rfl; decide) | (apply Ops.add; rfl; rfl; (constructor <;> omega)) | (apply Ops.sub; rfl; rfl; (constructor <;> omega)) | (apply Ops.rem; rfl; rfl; omega; omega) | (apply Ops.quo; rfl; rfl; (constructor <;> omega); omega) | (apply Ops.ld; rfl; (first | exact m0 | exact m1 | exact m2 | exact m3 | exact m4 | exact m5 | exact m6); rfl) | (apply Ops.st0; rfl; rfl; rfl; rfl; (first | exact u0 | exact u1 | exact u2 | exact u3 | exact u4 | exact u5); focus (simp; done)) | refine Ops.nil ?_ | refine Segs.nil ?_ | (apply Segs.oneS; rfl) | refine Run.seq ?_ | refine Run.reg ?_ | refine Run.block ?_ | refine Run.blk ?_ | refine Run.skip ?_))
    refine Segs.lend [] .nil fun F1 x1 k1 => ?_
    (repeat (first | (apply Ops.q; rfl; rfl) | (apply Ops.gyB; rfl; rfl) | (apply Ops.gnB; rfl; decide) | (apply Ops.add; rfl; rfl; (constructor <;> omega)) | (apply Ops.sub; rfl; rfl; (constructor <;> omega)) | (apply Ops.rem; rfl; rfl; omega; omega) | (apply Ops.quo; rfl; rfl; (constructor <;> omega); omega) | (apply Ops.ld; rfl; (first | exact m0 | exact m1 | exact m2 | exact m3 | exact m4 | exact m5 | exact m6); rfl) | (apply Ops.st0; rfl; rfl; rfl; rfl; (first | exact u0 | exact u1 | exact u2 | exact u3 | exact u4 | exact u5); focus (simp; done)) | refine Ops.nil ?_ | refine Segs.nil ?_ | (apply Segs.oneS; rfl) | refine Run.seq ?_ | refine Run.reg ?_ | refine Run.block ?_ | refine Run.blk ?_ | refine Run.skip ?_))
    refine Ops.ixS rfl rfl ⟨by omega, by omega⟩ ?_
    refine Ops.cvBS rfl (hrx.ext x1) ?_
    refine Ops.ldF rfl (x1 _ _ hF') (by rw [Int.toNat_natCast, Nat.mul_one]; exact hy) ?_
    refine Ops.cvBS rfl (hry.ext x1) ?_
    refine Ops.nil (Segs.oneS rfl ?_)
    refine Ops.pE (v' := .bool (!decide (b = b'))) rfl ?_ ?_
    · congr 2
      rw [ByteArray.toList_eq, ByteArray.toList_eq]
      by_cases e : b = b' <;> simp [e]
    (repeat (first | (apply Ops.q; rfl; rfl) | (apply Ops.gyB; rfl; rfl) | (apply Ops.gnB; rfl; decide) | (apply Ops.add; rfl; rfl; (constructor <;> omega)) | (apply Ops.sub; rfl; rfl; (constructor <;> omega)) | (apply Ops.rem; rfl; rfl; omega; omega) | (apply Ops.quo; rfl; rfl; (constructor <;> omega); omega)))
    refine Ops.nil (Segs.nil ?_)
    by_cases hbb : b = b'
    · refine Run.condF (by simp [get, look, hbb]) ?_
      subst hbb
      (repeat (first | (apply Ops.q; rfl; rfl) | (apply Ops.gyB; rfl; rfl) | (apply Ops.gnB; rfl; decide) | (apply Ops.add; rfl; rfl; (constructor <;> omega)) | (apply Ops.sub; rfl; rfl; (constructor <;> omega)) | (apply Ops.rem; rfl; rfl; omega; omega) | (apply Ops.quo; rfl; rfl; (constructor <;> omega); omega) | (apply Ops.ld; rfl; (first | exact m0 | exact m1 | exact m2 | exact m3 | exact m4 | exact m5 | exact m6); rfl) | (apply Ops.st0; rfl; rfl; rfl; rfl; (first | exact u0 | exact u1 | exact u2 | exact u3 | exact u4 | exact u5); focus (simp; done)) | refine Ops.nil ?_ | refine Segs.nil ?_ | (apply Segs.oneS; rfl) | refine Run.seq ?_ | refine Run.reg ?_ | refine Run.block ?_ | refine Run.blk ?_ | refine Run.skip ?_))
      exact Run.lp (Run.again (ih (i + 1) (by omega) ⟨by omega, by rw [hdec]; exact decide_eq_decide.2 (by simp)⟩) (.cons rfl (.cons rfl (.cons rfl (.cons rfl .nil)))) (fun h q => q))
    · refine Run.condT (by simp [get, look, hbb]) ?_
      (repeat (first | (apply Ops.q; rfl; rfl) | (apply Ops.gyB; rfl; rfl) | (apply Ops.gnB; rfl; decide) | (apply Ops.add; rfl; rfl; (constructor <;> omega)) | (apply Ops.sub; rfl; rfl; (constructor <;> omega)) | (apply Ops.rem; rfl; rfl; omega; omega) | (apply Ops.quo; rfl; rfl; (constructor <;> omega); omega) | (apply Ops.ld; rfl; (first | exact m0 | exact m1 | exact m2 | exact m3 | exact m4 | exact m5 | exact m6); rfl) | (apply Ops.st0; rfl; rfl; rfl; rfl; (first | exact u0 | exact u1 | exact u2 | exact u3 | exact u4 | exact u5); focus (simp; done)) | refine Ops.nil ?_ | refine Segs.nil ?_ | (apply Segs.oneS; rfl) | refine Run.seq ?_ | refine Run.reg ?_ | refine Run.block ?_ | refine Run.blk ?_ | refine Run.skip ?_))
      exact Run.ret1 Try.func13 rfl rfl (fun h q => q) ⟨by rw [hdec]; simp [hbb], rfl⟩
  · have : i = xs.length := by omega
    subst this
    rw [List.drop_length, hl, List.drop_length] at hdec
    refine Run.exit rfl ?_
    (repeat (first | (apply Ops.q; rfl; rfl) | (apply Ops.gyB; rfl; rfl) | (apply Ops.gnB; rfl; decide) | (apply Ops.add; rfl; rfl; (constructor <;> omega)) | (apply Ops.sub; rfl; rfl; (constructor <;> omega)) | (apply Ops.rem; rfl; rfl; omega; omega) | (apply Ops.quo; rfl; rfl; (constructor <;> omega); omega) | (apply Ops.ld; rfl; (first | exact m0 | exact m1 | exact m2 | exact m3 | exact m4 | exact m5 | exact m6); rfl) | (apply Ops.st0; rfl; rfl; rfl; rfl; (first | exact u0 | exact u1 | exact u2 | exact u3 | exact u4 | exact u5); focus (simp; done)) | refine Ops.nil ?_ | refine Segs.nil ?_ | (apply Segs.oneS; rfl) | refine Run.seq ?_ | refine Run.reg ?_ | refine Run.block ?_ | refine Run.blk ?_ | refine Run.skip ?_))
    exact Run.ret1 Try.func13 rfl rfl (fun h q => q) ⟨by rw [hdec]; simp, rfl⟩

theorem Spec.openG {P : Program} {f : FuncId} {args : Array Value} {F : Hp} {I : List HA → Prop} {R : Value → List HA → Prop} (s : ∀ G, I G → Spec P f args F G R) : Spec P f args F [grp I] R := by
  unfold Spec
  intro w h q k
  obtain ⟨x, y, sp, ⟨G, hG, qG⟩, _⟩ := q
  have := s G hG
  unfold Spec at this
  exact this w h (seps_up qG sp.symm) k

theorem Spec.lendD {P : Program} {f : FuncId} {args : Array Value} {F : Hp} {G : List HA} {R : Value → List HA → Prop} (s : ∀ F', Ext F F' → Known G F' → Spec P f args F' [] R) : Spec P f args F G R := by
  have := Spec.frame (P := P) (f := f) (args := args) (F := F) (Pre := []) (Rest := G) (R := R) .nil s
  unfold Spec at this ⊢
  intro w h q k
  refine (this w h q k).mono ?_
  rintro e w' ⟨v, H', h', he, ⟨G', r, rfl⟩, q', k', kp⟩
  obtain ⟨x, y, sp, qx, _⟩ := seps_append.1 q'
  exact ⟨v, G', h', he, r, seps_up qx sp.symm, k', kp⟩

/-- a list's rows, once all of its blocks are known -/
def LstK (v : Value) (bss : List Bytes) (G : List HA) : Prop := (∃ a c, v = .slice a bss.length c) ∧ ∀ F, Known G F → RdBB F v bss
theorem lst_know {v : Value} {bss : List Bytes} {H : List HA} : ∀ h, seps (LstP v bss :: H) h → seps (grp (LstK v bss) :: H) h := by
  rintro h ⟨x, y, sp, ⟨G, ⟨a, c, vs, rfl, hv, rfl⟩, q⟩, qr⟩
  obtain ⟨x2, y2, sp2, ⟨G1, h1, q1⟩, ⟨x3, y3, sp3, ⟨G2, h2, q2⟩, _⟩⟩ := q
  exact ⟨x, y, sp, ⟨G1 ++ G2, ⟨⟨a, c, rfl⟩, fun F k => h1.rdBB k.left (h2.rds k.right)⟩, seps_append.2 ⟨x2, y2, sp2, q1, seps_up q2 sp3.symm⟩⟩, qr⟩

theorem law_same_list (u v : Value) (xs ys : List Bytes) (F : Hp) (hy : RdBB F v ys) (hn : xs.length ≤ 1099511627) :
    Spec Try.prog 13 [u, v].toArray F [LstP u xs] fun r H => r = .bool (decide (xs = ys)) ∧ H = [] := by
  have : Spec Try.prog 13 [u, v].toArray F [grp (LstK u xs)] fun r H => r = .bool (decide (xs = ys)) ∧ H = [] :=
    Spec.openG fun G hG => Spec.lendD fun F' e k => law_same u v xs ys F' (hG.2 F' k) (hy.ext e) hn
  unfold Spec at this ⊢
  exact fun w h q k => this w h (lst_know h q) k
end Eng
end Go.Proofs.Ytbhlolmglieehaa
