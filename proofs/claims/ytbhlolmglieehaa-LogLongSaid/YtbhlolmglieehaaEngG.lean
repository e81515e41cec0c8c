/- The resolved operations are sound. -/
import Derived.Test.YtbhlolmglieehaaEngF
set_option linter.unusedSimpArgs false
set_option linter.unusedVariables false
namespace Go.Proofs.Ytbhlolmglieehaa
namespace Eng

/-- the operation runs to something of which Q holds -/
def Does (P : Program) (ρ : Operand → Value) (o : Op) (T : TypeId) (w : World) (Q : Next → World → Prop) : Prop :=
  ∃ r w', (∀ d pos af g, (execOp ρ ⟨d, o, T, pos, af, g⟩).run P w = .ok r w') ∧ Q r w'

section
variable {P : Program} {w : World} {ρ : Operand → Value} {T : TypeId} {Q : Next → World → Prop}

theorem does_v {o : Op} {s : Sem Value} {v : Value} {w' : World} (h : s.run P w = .ok v w')
    (e : ∀ d pos af g, execOp ρ ⟨d, o, T, pos, af, g⟩ = (do pure (Next.value (← s)))) (q : Q (.value v) w') : Does P ρ o T w Q :=
  ⟨_, _, fun d pos af g => by rw [e]; exact run_v h, q⟩

theorem does_u {o : Op} {s : Sem Unit} {w' : World} (h : s.run P w = .ok () w')
    (e : ∀ d pos af g, execOp ρ ⟨d, o, T, pos, af, g⟩ = (do s; pure Next.skip)) (q : Q .skip w') : Does P ρ o T w Q :=
  ⟨_, _, fun d pos af g => by rw [e]; exact run_u h, q⟩

theorem run_bin {op : BinOp} {t : TypeId} {a b v : Value} (h : binVal op a b = some v) : (binOp op t a b).run P w = .ok v w := by
  unfold binVal at h
  split at h
  · rename_i k a k' b
    cases op
    case shl => simp only at h; split at h <;> cases h; rename_i hb; simp [binOp, Op.shift, hb]
    case shr => simp only at h; split at h <;> cases h; rename_i hb; simp [binOp, Op.shift, hb]
    case quo =>
      simp only at h
      split at h
      · rename_i hk
        split at h
        · cases h
        · rename_i hb; cases h; subst hk; simp [binOp, Op.intDiv, hb]
      · cases h
    case rem =>
      simp only at h
      split at h
      · rename_i hk
        split at h
        · cases h
        · rename_i hb; cases h; subst hk; simp [binOp, Op.intDiv, hb]
      · cases h
    all_goals
      simp only at h; split at h
      · rename_i hk
        cases h
        subst hk
        first
          | (simp [binOp, Op.intArith, Op.intBits, Op.intCmp]; done)
          | (simp only [binOp, Op.intCmp, ne_eq, not_true_eq_false, if_false, run_pure']; done)
          | (simp only [binOp, Op.intCmp, ne_eq, not_true_eq_false, if_false, run_pure']; rfl)
      · cases h
  · rename_i a b
    cases op <;> simp only at h
    case add =>
      split at h
      · cases h
      · rename_i hb; cases h
        simp only [binOp, Op.stringOp, if_neg hb, run_pure']
    all_goals first
      | (cases h; done)
      | (cases h; rfl)
  · cases h

theorem eqGuard_bin {op op' : BinOp} {t : TypeId} {x y : Operand} {a b v : Value} (h : binVal op a b = some v) : (eqGuard op' t x y a b).run P w = .ok () w := by
  unfold binVal at h
  split at h
  · cases op' <;> rfl
  · cases op' <;> rfl
  · cases h

theorem run_eqv {t : TypeId} {d : TypeDesc} {a b : Value} {r : Bool} (hd : P.underlying t = some d) (h : eqVal d a b = some r) : (Op.equal t a b).run P w = .ok r w := by
  unfold Op.equal
  show (Op.equalIn (9999 + 1) t a b).run P w = _
  unfold Op.equalIn
  rw [run_bind_ok (run_underlying hd)]
  unfold eqVal at h
  split at h <;> cases h <;> rfl

theorem eqGuard_eqv {op : BinOp} {t : TypeId} {d : TypeDesc} {x y : Operand} {a b : Value} {r : Bool} (h : eqVal d a b = some r) : (eqGuard op t x y a b).run P w = .ok () w := by
  unfold eqVal at h
  split at h <;> first | (cases h; done) | (cases op <;> rfl)

theorem run_un {op : UnOp} {x v : Value} (h : unVal op x = some v) : (Op.unary op x).run P w = .ok v w := by
  unfold unVal at h
  split at h <;> cases h <;> rfl


theorem find_spot (a : Addr) (h : a.spot = none) : a = ⟨a.block, a.off, none⟩ := by cases a; simp_all

theorem setBlk_self {b : Nat} {o : Obj} (h : w.heap[b]? = some o) : setBlk w b o = w := by
  unfold setBlk
  have hb : b < w.heap.size := by
    rcases Nat.lt_or_ge b w.heap.size with h1 | h1
    · exact h1
    · simp [Array.getElem?_eq_none h1] at h
  have : w.heap.setIfInBounds b o = w.heap := by
    apply Array.ext_getElem?
    intro i
    rw [Array.getElem?_setIfInBounds]
    split
    · rename_i e; subst e; exact h.symm
    · rfl
  rw [this]

theorem run_cells_store {a : Addr} {xs L : List Value} {T : TypeId} {fz : Nat × Nat} (hs : a.spot = none) (hb : w.heap[a.block]? = some (.cells L.toArray T fz)) (h1 : oneCells xs)
    (hl : a.off + xs.length ≤ L.length) (hf : ∀ j, a.off ≤ j → j < a.off + xs.length → (decide (fz.1 ≤ j) && decide (j < fz.2)) = false) :
    (storeCells a xs).run P w = .ok () (setBlk w a.block (.cells (L.take a.off ++ xs ++ L.drop (a.off + xs.length)).toArray T fz)) := by
  rw [find_spot a hs]
  have := run_storeCells (P := P) (b := a.block) T fz a.off xs 0 L w hb (by omega) (fun j x y => hf j (by omega) (by omega)) h1
  simp only [Nat.add_zero] at this
  rw [this]
  by_cases e : xs = []
  · subst e
    simp only [if_true, List.append_nil, List.length_nil, Nat.add_zero, List.take_append_drop]
    rw [setBlk_self hb]
  · rw [if_neg e]

theorem mapM_map {α β : Type} (parts : Array (Nat × Operand)) (ρ : Operand → Value) : (parts.map fun (i, x) => (i, ρ x)).toList = parts.toList.map fun p => (p.1, ρ p.2) := by simp

theorem nextcap_le (need c : Nat) (h : c < need) : Builtin.nextslicecap need c ≤ 2 * need + 1024 := by
  have g : ∀ (r c : Nat), c < need → Builtin.growBy need r c ≤ 2 * need + 1024 := by
    intro r
    induction r with
    | zero => intro c h; simp only [Builtin.growBy]; omega
    | succ r ih =>
      intro c h
      simp only [Builtin.growBy]
      split
      · omega
      · by_cases h2 : c + (c + 768) / 4 < need
        · exact ih _ h2
        · cases r with
          | zero => simp only [Builtin.growBy]; omega
          | succ r => simp only [Builtin.growBy]; rw [if_pos (by omega)]; omega
  unfold Builtin.nextslicecap
  split
  · omega
  · split
    · omega
    · exact g 4 c h
end
end Eng
end Go.Proofs.Ytbhlolmglieehaa
