/- Whatever an operation is resolved to, the model does. -/
import Derived.Test.YtbhlolmglieehaaEngI
set_option linter.unusedSimpArgs false
set_option linter.unusedVariables false
namespace Go.Proofs.Ytbhlolmglieehaa
namespace Eng

section
variable {P : Program} {w : World} {ρ : Operand → Value} {T : TypeId} {Q : Next → World → Prop}

theorem partsAt_sound {place : Nat → Option (Nat × Nat)} {parts : Array (Nat × Operand)} {ps : List (Nat × Nat × Operand)} (h : partsAt place parts = some ps) {z : List Value} {out : List Value}
    (hb : buildL z (ps.map fun p => (p.1, p.2.1, ρ p.2.2)) = some out) :
    Instr.fill place z.toArray (parts.map fun (i, x) => (i, ρ x)).toList = some out.toArray := by
  have := fill_eq place ρ parts.toList ps z out h hb
  simpa using this

theorem does_buildS {t : TypeId} {parts : Array (Nat × Operand)} {i : TypeInfo} {fs : Array Field} {z : Value} {ps : List (Nat × Nat × Operand)} (hi : P.info? t = some i) (ht : P.underlying t = some (.struct fs))
    (hz : i.zero = some z) (hall : (fs.all fun f => (P.info? f.type).isSome) = true)
    (hp : partsAt (fun k => (fs[k]?).bind fun f => (P.info? f.type).map fun j => (f.offset, j.size)) parts = some ps)
    (h : EOp.wp P ρ w Q (.build (vcells z) ps)) : Does P ρ (.build t parts) T w Q := by
  obtain ⟨cs, hb, q⟩ := h
  refine does_v (s := Instr.build t (parts.map fun (i, x) => (i, ρ x))) ?_ (fun _ _ _ _ => rfl) q
  unfold Instr.build
  rw [run_bind_ok (run_zero hi hz)]
  simp only
  rw [run_bind_ok (run_underlying ht)]
  simp only
  have hplaces : (fs.mapM fun f => (do pure (f.offset, ← sizeOf f.type) : Sem (Nat × Nat))).run P w = .ok (fs.map fun f => (f.offset, P.cellsOf f.type)) w := by
    have key : ∀ (l : List Field) (acc : Array (Nat × Nat)), (∀ f ∈ l, (P.info? f.type).isSome = true) →
        (l.foldlM (fun (bs : Array (Nat × Nat)) f => bs.push <$> (do pure (f.offset, ← sizeOf f.type) : Sem (Nat × Nat))) acc : Sem _).run P w = .ok (acc ++ (l.map fun f => (f.offset, P.cellsOf f.type)).toArray) w := by
      intro l
      induction l with
      | nil => intro acc _; simp
      | cons f l ih =>
        intro acc hl
        have hf := hl f (.head _)
        cases hfi : P.info? f.type with
        | none => rw [hfi] at hf; cases hf
        | some j =>
          rw [List.foldlM_cons, run_bind_ok (a := acc.push (f.offset, j.size)) (w' := w)]
          · rw [ih _ (fun g hg => hl g (.tail _ hg))]
            simp [Program.cellsOf, hfi]
          · have : (do pure (f.offset, ← sizeOf f.type) : Sem (Nat × Nat)).run P w = .ok (f.offset, j.size) w := by
              rw [run_bind_ok (run_sizeOf hfi)]; rfl
            show Sem.run P (Sem.bind _ _) w = _
            exact (run_bind_ok (f := fun a => pure (acc.push a)) this).trans rfl
    rw [Array.mapM_eq_foldlM, ← Array.foldlM_toList, key _ _ (fun f hf => by
      have := Array.all_eq_true_iff_forall_mem.1 hall f (by simpa using hf)
      exact this)]
    rw [Array.empty_append, ← Array.toList_map, Array.toArray_toList]
  rw [run_bind_ok hplaces, vcells_eq]
  have hfill := partsAt_sound hp hb
  have hpl : (fun (k : Nat) => (fs.map fun (f : Field) => (f.offset, P.cellsOf f.type))[k]?) = fun (k : Nat) => (fs[k]?).bind fun (f : Field) => (P.info? f.type).map fun j => (f.offset, j.size) := by
    funext k
    simp only [Array.getElem?_map]
    cases hk : fs[k]? with
    | none => rfl
    | some f =>
      have hm : f ∈ fs := Array.mem_of_getElem? hk
      have := (Array.all_eq_true_iff_forall_mem.1 hall) f hm
      cases hfi : P.info? f.type with
      | none => rw [hfi] at this; cases this
      | some j => simp [Program.cellsOf, hfi]
  rw [hpl, hfill]
  rfl

theorem does_buildA {t e : TypeId} {len : Nat} {parts : Array (Nat × Operand)} {i j : TypeInfo} {z : Value} {ps : List (Nat × Nat × Operand)} (hi : P.info? t = some i) (ht : P.underlying t = some (.array len e))
    (hz : i.zero = some z) (hj : P.info? e = some j) (hp : partsAt (fun k => some (k * j.size, j.size)) parts = some ps)
    (h : EOp.wp P ρ w Q (.build (vcells z) ps)) : Does P ρ (.build t parts) T w Q := by
  obtain ⟨cs, hb, q⟩ := h
  refine does_v (s := Instr.build t (parts.map fun (i, x) => (i, ρ x))) ?_ (fun _ _ _ _ => rfl) q
  unfold Instr.build
  rw [run_bind_ok (run_zero hi hz)]
  simp only
  rw [run_bind_ok (run_underlying ht)]
  simp only
  rw [run_bind_ok (run_sizeOf hj), vcells_eq, partsAt_sound hp hb]
  rfl

theorem run_buildSlice {t e : TypeId} {n : Nat} {vs : Array (Nat × Value)} {j : TypeInfo} {z : Value} {cs : List Value} (ht : P.underlying t = some (.slice e)) (hj : P.info? e = some j)
    (hz : j.zero = some z) (h24 : ¬ n * j.size > 2 ^ 24) (hl : (vcells z).length = j.size) (h0 : j.size ≠ 0)
    (hfill : Instr.fill (fun k => some (k * j.size, j.size)) (zerosL (vcells z) n).toArray vs.toList = some cs.toArray) :
    (Instr.buildSlice t n vs).run P w = .ok (.slice (some ⟨w.heap.size, 0, none⟩) n n) (newBlk w (.cells cs.toArray e)) := by
  have hcells : ∀ zz : Array Value, (n * j.size = 0 ∧ zz = #[] ∨ zz = (vcells z).toArray) → (Array.range (n * j.size)).map (fun i => zz[i % zz.size]!) = (zerosL (vcells z) n).toArray := by
    intro zz hzz
    by_cases hn : n = 0
    · subst hn; apply Array.ext'; simp [zerosL]
    · rcases hzz with ⟨h1, _⟩ | h1
      · rcases Nat.mul_eq_zero.1 h1 with e | e
        · exact absurd e hn
        · exact absurd e h0
      · subst h1
        rw [← hl]; exact range_zero _ (by omega) _
  unfold Instr.buildSlice
  rw [run_bind_ok (run_underlying ht)]
  simp only
  rw [run_bind_ok (run_sizeOf hj)]
  rw [if_neg h24]
  by_cases hn : n * j.size = 0
  · simp only [hn, if_true]
    rw [run_bind]; simp only [run_pure']
    have := hcells #[] (.inl ⟨hn, rfl⟩)
    rw [hn] at this
    rw [this, hfill]
    simp only
    rw [run_bind_ok (run_newRow _ _)]; rfl
  · simp only [hn, if_false]
    rw [run_bind_ok (run_zero hj hz), run_bind]
    simp only [run_pure', vcells_eq]
    rw [hcells _ (.inr rfl), hfill]
    simp only
    rw [run_bind_ok (run_newRow _ _)]; rfl

theorem does_bsl {t e : TypeId} {n : Nat} {parts : Array (Nat × Operand)} {j : TypeInfo} {z : Value} {ps : List (Nat × Nat × Operand)} (ht : P.underlying t = some (.slice e)) (hj : P.info? e = some j)
    (hz : j.zero = some z) (h24 : ¬ n * j.size > 2 ^ 24) (hl : (vcells z).length = j.size) (h0 : j.size ≠ 0) (hp : partsAt (fun k => some (k * j.size, j.size)) parts = some ps)
    (h : EOp.wp P ρ w Q (.bsl e (zerosL (vcells z) n) n ps)) : Does P ρ (.buildSlice t n parts) T w Q := by
  obtain ⟨cs, hb, q⟩ := h
  exact does_v (run_buildSlice ht hj hz h24 hl h0 (partsAt_sound hp hb)) (fun _ _ _ _ => rfl) q

theorem does_mki {t : TypeId} {d : TypeDesc} {x : Operand} (ht : P.underlying t = some d) (hd : ∀ ms, d ≠ .interface ms) (h : EOp.wp P ρ w Q (.mki t x)) : Does P ρ (.makeInterface t x) T w Q := by
  refine does_v (s := Instr.makeInterface t (ρ x)) ?_ (fun _ _ _ _ => rfl) h
  unfold Instr.makeInterface
  rw [run_bind_ok (run_underlying ht)]
  cases d <;> first | rfl | exact absurd rfl (hd _)

theorem does_raw {o : Op} (h : EOp.wp P ρ w Q (.raw o T)) (hsame : ∀ d pos af g, execOp ρ ⟨d, o, T, pos, af, g⟩ = execOp ρ { (default : Oper) with op := o, type := T }) : Does P ρ o T w Q := by
  obtain ⟨r, w', hr, q⟩ := h
  exact ⟨r, w', fun d pos af g => by rw [hsame]; exact hr, q⟩

theorem run_eqInt {e : TypeId} {k : IntKind} (he : P.underlying e = some (.int k)) (d : Nat) (a b : Int) : (Op.equalIn (d + 1) e (.int k a) (.int k b)).run P w = .ok (a == b) w := by
  unfold Op.equalIn
  rw [run_bind_ok (run_underlying he)]
  simp

theorem run_eqArr {e : TypeId} {k : IntKind} {j : TypeInfo} (he : P.underlying e = some (.int k)) (hj : P.info? e = some j) (h1 : j.size = 1) (d : Nat) (xs ys : List Int) (hlen : xs.length = ys.length) :
    ∀ (n i : Nat), i + n = xs.length → xs.take i = ys.take i →
    (forIn (List.range' i n) ((none, ()) : Option Bool × PUnit) (fun i r => do
        if !(← Op.equalIn (d + 1) e (← part e (xs.map (Value.int k)).toArray (i * 1)) (← part e (ys.map (Value.int k)).toArray (i * 1))) then pure (ForInStep.done (some false, ()))
        else pure (ForInStep.yield (none, ()))) : Sem _).run P w = .ok (if xs = ys then (none, ()) else (some false, ())) w := by
  intro n
  induction n with
  | zero =>
    intro i hi ht
    have : xs = ys := by
      rw [List.take_of_length_le (by omega), List.take_of_length_le (by omega)] at ht; exact ht
    subst this
    simp
  | succ n ih =>
    intro i hi ht
    have hx : i < xs.length := by omega
    have hy : i < ys.length := by omega
    have ha : aggOf P e = some false := by unfold aggOf; rw [he]
    have p1 : (part e (xs.map (Value.int k)).toArray (i * 1)).run P w = .ok (.int k xs[i]) w := run_part1 ha (by simp [hx])
    have p2 : (part e (ys.map (Value.int k)).toArray (i * 1)).run P w = .ok (.int k ys[i]) w := run_part1 ha (by simp [hy])
    have step : (do
        if !(← Op.equalIn (d + 1) e (← part e (xs.map (Value.int k)).toArray (i * 1)) (← part e (ys.map (Value.int k)).toArray (i * 1))) then pure (ForInStep.done (some false, ()))
        else pure (ForInStep.yield (none, ())) : Sem (ForInStep (Option Bool × PUnit))).run P w = .ok (if xs[i] = ys[i] then .yield (none, ()) else .done (some false, ())) w := by
      rw [run_bind_ok p1, run_bind_ok p2, run_bind_ok (run_eqInt he d _ _)]
      by_cases e : xs[i] = ys[i]
      · simp [e]
      · simp [e]
    rw [List.range'_succ]
    by_cases e : xs[i] = ys[i]
    · have := ih (i + 1) (by omega) (by rw [List.take_succ_eq_append_getElem hx, List.take_succ_eq_append_getElem hy, ht, e])
      rw [← this]
      simp only [List.forIn_cons]
      rw [if_pos e] at step
      rw [run_bind_ok step]
    · rw [if_neg e] at step
      have hne : ¬ xs = ys := by intro h; subst h; exact e rfl
      rw [if_neg hne]
      simp only [List.forIn_cons]
      rw [run_bind_ok step]; rfl

theorem does_eqa {neg : Bool} {t t' e : TypeId} {k : IntKind} {n : Nat} {x y : Operand} {j : TypeInfo} (ht : P.underlying t = some (.array n e)) (he : P.underlying e = some (.int k)) (hj : P.info? e = some j) (h1 : j.size = 1)
    (hg : P.eqGuardType P.depth t = false) (h : EOp.wp P ρ w Q (.eqa neg t k n x y)) : Does P ρ (.binOp (if neg then .neq else .eql) t x y t') T w Q := by
  obtain ⟨xs, ys, hx, hy, lx, ly, q⟩ := h
  refine does_v (s := do eqGuard (if neg then .neq else .eql) t x y (ρ x) (ρ y); binOp (if neg then .neq else .eql) t (ρ x) (ρ y)) ?_ (fun _ _ _ _ => rfl) q
  have hguard : ∀ op, (eqGuard op t x y (ρ x) (ρ y)).run P w = .ok () w := by
    intro op
    rw [hx, hy]
    have core : (do if !(← program).eqGuardType (← program).depth t then return
                    if ← Op.eqGuardIn Op.maxDepth t (.agg (xs.map (Value.int k)).toArray) (.agg (ys.map (Value.int k)).toArray) then
                      unsupported (.noEntry "binop/eql: two nil values of an interface type with methods, in a part of a struct or an array") : Sem Unit).run P w = .ok () w := by
      rw [run_program, run_program]; simp [hg]
    cases op <;> first | rfl | exact core
  rw [run_bind_ok (hguard _), hx, hy]
  have heq : (Op.equal t (.agg (xs.map (Value.int k)).toArray) (.agg (ys.map (Value.int k)).toArray)).run P w = .ok (xs == ys) w := by
    unfold Op.equal
    show (Op.equalIn (9998 + 1 + 1) t _ _).run P w = _
    unfold Op.equalIn
    rw [run_bind_ok (run_underlying ht)]
    simp only
    rw [run_bind_ok (run_sizeOf hj), h1]
    have := run_eqArr (w := w) he hj h1 9998 xs ys (by omega) n 0 (by omega) rfl
    simp only [Std.Legacy.Range.forIn_eq_forIn_range', Std.Legacy.Range.size, Nat.sub_zero, Nat.add_sub_cancel, Nat.div_one]
    rw [run_bind_ok this]
    by_cases e : xs = ys
    · rw [if_pos e, e]; simp
    · rw [if_neg e]; simp [e]
  cases neg with
  | false => show Sem.run P (do pure (Value.bool (← Op.equal t _ _))) w = _; rw [run_bind_ok heq]; rfl
  | true => show Sem.run P (do pure (Value.bool (!(← Op.equal t _ _)))) w = _; rw [run_bind_ok heq]; rfl

end
end Eng
end Go.Proofs.Ytbhlolmglieehaa
