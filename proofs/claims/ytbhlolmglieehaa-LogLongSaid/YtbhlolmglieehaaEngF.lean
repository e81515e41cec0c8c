/- What the resolved operations say is what the model does. -/
import Derived.Test.YtbhlolmglieehaaEngE
set_option linter.unusedSimpArgs false
set_option linter.unusedVariables false
namespace Go.Proofs.Ytbhlolmglieehaa
namespace Eng

section
variable {P : Program} {w : World}

theorem run_program {α : Type} (f : Program → Sem α) : (program >>= f).run P w = (f P).run P w := by
  rw [run_bind]; rfl

theorem run_info {t : TypeId} {i : TypeInfo} (h : P.info? t = some i) : (typeInfo t).run P w = .ok i w := by
  unfold typeInfo; rw [run_program, h]; rfl

theorem run_underlying {t : TypeId} {d : TypeDesc} (h : P.underlying t = some d) : (underlying t).run P w = .ok d w := by
  unfold underlying; rw [run_program, h]; rfl

theorem run_sizeOf {t : TypeId} {i : TypeInfo} (h : P.info? t = some i) : (sizeOf t).run P w = .ok i.size w := by
  unfold sizeOf; rw [run_bind_ok (run_info h)]; rfl

theorem run_zero {t : TypeId} {i : TypeInfo} {z : Value} (h : P.info? t = some i) (hz : i.zero = some z) : (zeroValue t).run P w = .ok z w := by
  unfold zeroValue; rw [run_bind_ok (run_info h), hz]; rfl

theorem run_isAgg {t : TypeId} {b : Bool} (h : aggOf P t = some b) : (isAgg t).run P w = .ok b w := by
  unfold aggOf at h; unfold isAgg
  split at h
  · rename_i e; rw [run_bind_ok (run_underlying e)]; cases h; rfl
  · rename_i e; rw [run_bind_ok (run_underlying e)]; cases h; rfl
  · rename_i d h1 h2 e
    rw [run_bind_ok (run_underlying e)]; cases h
    cases d <;> first | rfl | exact (h1 _ rfl).elim | exact (h2 _ _ rfl).elim
  · cases h

theorem run_v {s : Sem Value} {v : Value} {w' : World} (h : s.run P w = .ok v w') :
    (do pure (Next.value (← s)) : Sem Next).run P w = .ok (.value v) w' := by rw [run_bind_ok h]; rfl
theorem run_u {s : Sem Unit} {w' : World} (h : s.run P w = .ok () w') :
    (do s; pure Next.skip : Sem Next).run P w = .ok .skip w' := by rw [run_bind_ok h]; rfl

theorem run_newRow (T : TypeId) (c : Array Value) : (newRow T c).run P w = .ok ⟨w.heap.size, 0, none⟩ (newBlk w (.cells c T)) := by
  unfold newRow newObj; rw [run_bind]; rfl

theorem run_newVar (T : TypeId) (v : Value) : (newVar T v).run P w = .ok ⟨w.heap.size, 0, none⟩ (newBlk w (.cells (vcells v).toArray T)) := by
  unfold newVar; rw [run_newRow, vcells_eq]

theorem run_choose (q : Question) (h : q.forced = false) : (choose q).run P w = .ok (q.cut (w.tape w.drawn q)) { w with drawn := w.drawn + 1 } := by
  simp [choose, Sem.run, h]

theorem run_askRoom (n : Nat) : (askRoom n).run P w = .ok () w := by
  unfold askRoom; split <;> rfl

theorem run_part {t : TypeId} {cs : List Value} {o : Nat} {i : TypeInfo} (ha : aggOf P t = some true) (hi : P.info? t = some i) :
    (part t cs.toArray o).run P w = .ok (.agg ((cs.drop o).take i.size).toArray) w := by
  unfold part; rw [run_bind_ok (run_isAgg ha)]; simp only [if_true]; rw [run_bind_ok (run_sizeOf hi)]
  simp [List.take_drop, Nat.add_comm]

theorem run_part1 {t : TypeId} {cs : List Value} {o : Nat} {v : Value} (ha : aggOf P t = some false) (hv : cs[o]? = some v) :
    (part t cs.toArray o).run P w = .ok v w := by
  unfold part; rw [run_bind_ok (run_isAgg ha)]; simp [hv]

theorem foldl_fillL (cs : List Value) (o : Nat) (vs : List Value) : ∀ (k : Nat), o + k + vs.length ≤ cs.length →
    (vs.zipIdx k).foldl (fun (a : Array Value) (p : Value × Nat) => a.setIfInBounds (o + p.2) p.1) cs.toArray =
      (cs.take (o + k) ++ vs ++ cs.drop (o + k + vs.length)).toArray := by
  induction vs generalizing cs with
  | nil => intro k _; simp
  | cons v vs ih =>
    intro k h
    simp only [List.length_cons] at h
    simp only [List.zipIdx_cons, List.foldl_cons]
    have h2 := ih (cs.set (o + k) v) (k + 1) (by simp; omega)
    rw [List.setIfInBounds_toArray, h2]
    congr 1
    have hi : o + k < cs.length := by omega
    have t1 : (cs.set (o + k) v).take (o + (k + 1)) = cs.take (o + k) ++ [v] := by
      rw [List.set_eq_take_append_cons_drop, if_pos hi, List.take_append]
      have e1 : min (o + (k + 1)) (o + k) = o + k := by omega
      have e2 : o + (k + 1) - (min (o + k) cs.length) = 1 := by omega
      simp only [List.take_take, List.length_take, e1, e2]
      rfl
    have t2 : (cs.set (o + k) v).drop (o + (k + 1) + vs.length) = cs.drop (o + k + (vs.length + 1)) := by
      rw [List.drop_set_of_lt (by omega)]; congr 1; omega
    rw [t1, t2]; simp

theorem foldl_fill (cs : List Value) (o : Nat) (vs : List Value) (h : o + vs.length ≤ cs.length) :
    vs.toArray.zipIdx.foldl (fun (a : Array Value) (p : Value × Nat) => a.setIfInBounds (o + p.2) p.1) cs.toArray =
      (cs.take o ++ vs ++ cs.drop (o + vs.length)).toArray := by
  have := foldl_fillL cs o vs 0 h
  rw [← Array.foldl_toList, Array.toList_zipIdx]
  simpa using this

theorem fill_eq (place : Nat → Option (Nat × Nat)) (ρ : Operand → Value) : ∀ (parts : List (Nat × Operand)) (ps : List (Nat × Nat × Operand)) (cs : List Value) (out : List Value),
    parts.mapM (fun (p : Nat × Operand) => (place p.1).map fun q => (q.1, q.2, p.2)) = some ps →
    buildL cs (ps.map fun p => (p.1, p.2.1, ρ p.2.2)) = some out →
    Instr.fill place cs.toArray (parts.map fun p => (p.1, ρ p.2)) = some out.toArray := by
  intro parts
  induction parts with
  | nil =>
    intro ps cs out h1 h2
    simp at h1; subst h1
    simp [buildL] at h2
    simp [Instr.fill, h2]
  | cons p parts ih =>
    intro ps cs out h1 h2
    obtain ⟨i, x⟩ := p
    simp only [List.mapM_cons, Option.pure_def, Option.bind_eq_bind] at h1
    cases hp : place i with
    | none => simp [hp] at h1
    | some q =>
      obtain ⟨off, size⟩ := q
      cases hr : parts.mapM (fun (p : Nat × Operand) => (place p.1).map fun q => (q.1, q.2, p.2)) with
      | none => simp [hp, hr] at h1
      | some qs =>
        simp [hp, hr] at h1
        subst h1
        simp only [List.map_cons, buildL] at h2
        split at h2
        · rename_i hc
          have := ih qs _ out hr h2
          simp only [List.map_cons, Instr.fill, hp]
          rw [vcells_eq]
          have e1 : ¬ ((vcells (ρ x)).toArray.size ≠ size ∨ off + (vcells (ρ x)).toArray.size > cs.toArray.size) := by simp; omega
          have e2 : ((decide ((vcells (ρ x)).toArray.size ≠ size)) || decide (off + (vcells (ρ x)).toArray.size > cs.toArray.size)) = false := by
            simp; omega
          simp only [Bool.or_eq_true, decide_eq_true_eq, if_neg e1]
          have := foldl_fill cs off (vcells (ρ x)) (by omega)
          rw [this, hc.1]
          assumption
        · cases h2

theorem range_zero (z : List Value) (hz : 0 < z.length) (n : Nat) :
    (Array.range (n * z.length)).map (fun i => z.toArray[i % z.toArray.size]!) = (zerosL z n).toArray := by
  apply Array.ext'
  simp only [Array.toList_map, Array.toList_range, zerosL]
  induction n with
  | zero => simp
  | succ n ih =>
    rw [Nat.add_mul, Nat.one_mul, List.range_add, List.map_append, List.replicate_succ', List.flatten_append]
    simp only [List.flatten_cons, List.flatten_nil, List.append_nil]
    have hl : ((List.range (n * z.length)).map fun i => z.toArray[i % z.toArray.size]!) = (List.replicate n z).flatten := by simpa using ih
    rw [hl]
    congr 1
    rw [List.map_map]
    apply List.ext_getElem
    · simp
    · intro i h1 h2
      simp only [List.length_map, List.length_range] at h1
      simp only [List.getElem_map, List.getElem_range, Function.comp]
      have : (n * z.length + i) % z.toArray.size = i := by
        simp [Nat.add_comm, Nat.add_mul_mod_self_right, Nat.mod_eq_of_lt h1]
      rw [this]
      simp [h1]

theorem zeroCells_eq (z : List Value) (hz : 0 < z.length) (n : Nat) : Builtin.zeroCells z.toArray n = (zerosL z n).toArray := by
  unfold Builtin.zeroCells
  have := range_zero z hz n
  simpa using this

theorem run_sliceBound {i : Int} {k : IntKind} {y : Nat} {c : BoundsCode} (h0 : 0 ≤ i) (h1 : i ≤ y) : (Instr.sliceBound (.int k i) y c).run P w = .ok i.toNat w := by
  unfold Instr.sliceBound asIntOf
  show Sem.run P (Sem.bind _ _) w = _
  simp [Sem.bind, pure, h0, h1, Sem.run]

theorem optN_some {ρ : Operand → Value} {x : Operand} {d n : Nat} (h : optN ρ (some x) d = some n) : ∃ k i, ρ x = .int k i ∧ 0 ≤ i ∧ n = i.toNat := by
  unfold optN at h
  simp only at h
  cases hx : ρ x with
  | int k i =>
    simp only [hx] at h
    split at h
    · rename_i h0; simp at h; exact ⟨k, i, rfl, h0, h.symm⟩
    · cases h
  | _ => simp [hx] at h

theorem run_sliceBounds {ρ : Operand → Value} {isS : Bool} {len cap l h m : Nat} {lo hi mx : Option Operand} (hm : optN ρ mx cap = some m) (hh : optN ρ hi len = some h)
    (hl : optN ρ lo 0 = some l) (hx : mx.isSome = true → hi.isSome = true) (h1 : l ≤ h) (h2 : h ≤ m) (h3 : m ≤ cap) :
    (Instr.sliceBounds isS len cap (lo.map ρ) (hi.map ρ) (mx.map ρ)).run P w = .ok (l, h, m) w := by
  cases mx with
  | none =>
    simp [optN] at hm; subst hm
    cases hi with
    | none =>
      simp [optN] at hh; subst hh
      cases lo with
      | none => simp [optN] at hl; subst hl; rfl
      | some z =>
        obtain ⟨k, i, e, h0, rfl⟩ := optN_some hl
        simp only [Instr.sliceBounds, Option.map, e, run_bind, run_pure', run_sliceBound h0 (show i ≤ ((len : Nat) : Int) from by omega)]
    | some y =>
      obtain ⟨ky, iy, ey, h0y, rfl⟩ := optN_some hh
      cases lo with
      | none =>
        simp [optN] at hl; subst hl
        simp only [Instr.sliceBounds, Option.map, ey, run_bind, run_pure', run_sliceBound h0y (show iy ≤ ((cap : Nat) : Int) from by omega)]
      | some z =>
        obtain ⟨k, i, e, h0, rfl⟩ := optN_some hl
        simp only [Instr.sliceBounds, Option.map, e, ey, run_bind, run_pure', run_sliceBound h0y (show iy ≤ ((cap : Nat) : Int) from by omega), run_sliceBound h0 (show i ≤ ((iy.toNat : Nat) : Int) from by omega)]
  | some x =>
    obtain ⟨kx, ix, ex, h0x, rfl⟩ := optN_some hm
    cases hi with
    | none => simp at hx
    | some y =>
      obtain ⟨ky, iy, ey, h0y, rfl⟩ := optN_some hh
      cases lo with
      | none =>
        simp [optN] at hl; subst hl
        simp only [Instr.sliceBounds, Option.map, ex, ey, run_bind, run_pure', run_sliceBound h0x (show ix ≤ ((cap : Nat) : Int) from by omega), run_sliceBound h0y (show iy ≤ ((ix.toNat : Nat) : Int) from by omega)]
      | some z =>
        obtain ⟨k, i, e, h0, rfl⟩ := optN_some hl
        simp only [Instr.sliceBounds, Option.map, e, ex, ey, run_bind, run_pure', run_sliceBound h0x (show ix ≤ ((cap : Nat) : Int) from by omega), run_sliceBound h0y (show iy ≤ ((ix.toNat : Nat) : Int) from by omega), run_sliceBound h0 (show i ≤ ((iy.toNat : Nat) : Int) from by omega)]

theorem run_lenOf {v : Value} {n : Nat} (h : lenV v = some n) : (Builtin.lenOf v).run P w = .ok n w := by
  unfold lenV at h; unfold Builtin.lenOf
  split at h <;> cases h <;> rfl

theorem run_firstCells {s n : Nat} {v : Value} {xs : List Value} (h : shows w s n v xs) : (Builtin.firstCells s n v).run P w = .ok xs.toArray w := by
  unfold shows at h
  split at h
  · subst h; simp [Builtin.firstCells]
  · rename_i a len cap
    rcases h with ⟨h0, rfl⟩ | ⟨hs, L, T, fz, hb, hl, rfl⟩
    · simp only [Builtin.firstCells, h0, loadCells, loadCellsFrom]; rfl
    obtain ⟨b, o, sp⟩ := a
    simp only at hs hb hl; subst hs
    exact run_loadCells hb hl
  · rename_i b
    subst h
    simp only [Builtin.firstCells, run_pure']
    congr 1
    apply Array.ext'
    simp
  · exact h.elim

theorem shows_len {s n : Nat} {v : Value} {xs : List Value} (h : shows w s n v xs) : xs.length ≤ n * s ∨ ∃ b, v = .string b := by
  unfold shows at h
  split at h
  · subst h; left; simp
  · rcases h with ⟨_, rfl⟩ | ⟨_, L, T, fz, _, hl, rfl⟩
    · left; simp
    · left; simp; omega
  · exact .inr ⟨_, rfl⟩
  · exact h.elim
end
end Eng
end Go.Proofs.Ytbhlolmglieehaa
