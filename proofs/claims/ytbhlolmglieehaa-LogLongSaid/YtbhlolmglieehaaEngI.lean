/- The resolved operations are sound: the rest, and the joint law. -/
import Derived.Test.YtbhlolmglieehaaEngH
set_option linter.unusedSimpArgs false
set_option linter.unusedVariables false
namespace Go.Proofs.Ytbhlolmglieehaa
namespace Eng

section
variable {P : Program} {w : World} {ρ : Operand → Value} {T : TypeId} {Q : Next → World → Prop}

theorem does_fldn {t : TypeId} {x : Operand} {f : Nat} {fs : Array Field} {fd : Field} {i : TypeInfo} (ht : P.underlying t = some (.struct fs)) (hf : fs[f]? = some fd)
    (ha : aggOf P fd.type = some true) (hi : P.info? fd.type = some i) (h : EOp.wp P ρ w Q (.fld x fd.offset (some i.size))) : Does P ρ (.field t x f) T w Q := by
  obtain ⟨cs, hx, q⟩ := h
  refine does_v (s := Instr.field t (ρ x) f) ?_ (fun _ _ _ _ => rfl) q
  unfold Instr.field
  rw [run_bind_ok (run_underlying ht), hx]
  simp only [hf, asAgg]
  rw [run_bind]
  exact run_part ha hi

theorem does_fld1 {t : TypeId} {x : Operand} {f : Nat} {fs : Array Field} {fd : Field} (ht : P.underlying t = some (.struct fs)) (hf : fs[f]? = some fd)
    (ha : aggOf P fd.type = some false) (h : EOp.wp P ρ w Q (.fld x fd.offset none)) : Does P ρ (.field t x f) T w Q := by
  obtain ⟨cs, hx, v, hv, q⟩ := h
  refine does_v (s := Instr.field t (ρ x) f) ?_ (fun _ _ _ _ => rfl) q
  unfold Instr.field
  rw [run_bind_ok (run_underlying ht), hx]
  simp only [hf, asAgg]
  rw [run_bind]
  exact run_part1 ha hv

theorem does_ext {x : Operand} {i : Nat} (h : EOp.wp P ρ w Q (.ext x i)) : Does P ρ (.extract x i) T w Q := by
  obtain ⟨vs, v, hx, hv, q⟩ := h
  refine does_v (s := Instr.extract (ρ x) i) ?_ (fun _ _ _ _ => rfl) q
  unfold Instr.extract
  rw [hx]; simp [hv]

theorem does_ixS {t e : TypeId} {x i : Operand} {j : TypeInfo} (ht : P.underlying t = some (.slice e)) (hj : P.info? e = some j) (h : EOp.wp P ρ w Q (.ixS x i j.size)) :
    Does P ρ (.indexAddr t x i) T w Q := by
  obtain ⟨a, n, c, k, m, hx, hi, h0, h1, q⟩ := h
  refine does_v (s := Instr.indexAt t (ρ x) (ρ i)) ?_ (fun _ _ _ _ => rfl) q
  unfold Instr.indexAt
  rw [hx, hi]
  simp only [asIntOf]
  rw [run_bind]; simp only [run_pure']
  rw [run_bind_ok (run_underlying ht)]
  simp only
  rw [run_bind]; simp only [run_pure']
  rw [run_bind_ok (run_underlying ht)]
  simp only [h0, h1, and_self, if_true]
  rw [run_bind_ok (run_sizeOf hj)]; rfl

theorem does_ixA {t e : TypeId} {len : Nat} {x i : Operand} {j : TypeInfo} (ht : P.underlying t = some (.array len e)) (hj : P.info? e = some j) (h : EOp.wp P ρ w Q (.ixA x i len j.size)) :
    Does P ρ (.indexAddr t x i) T w Q := by
  obtain ⟨a, k, m, hx, hi, h0, h1, q⟩ := h
  refine does_v (s := Instr.indexAt t (ρ x) (ρ i)) ?_ (fun _ _ _ _ => rfl) q
  unfold Instr.indexAt
  rw [hx, hi]
  simp only [asIntOf]
  rw [run_bind]; simp only [run_pure']
  rw [run_bind_ok (run_underlying ht)]
  simp only
  rw [run_bind_ok (run_sure a), run_bind]; simp only [run_pure']
  rw [run_bind_ok (run_underlying ht)]
  simp only [h0, h1, and_self, if_true]
  rw [run_bind_ok (run_sizeOf hj)]; rfl

theorem does_idS {t : TypeId} {x i : Operand} (ht : P.underlying t = some .string) (h : EOp.wp P ρ w Q (.idS x i)) : Does P ρ (.index t x i) T w Q := by
  obtain ⟨b, k, m, c, hx, hi, h0, hc, q⟩ := h
  refine does_v (s := Instr.index t (ρ x) (ρ i)) ?_ (fun _ _ _ _ => rfl) q
  unfold Instr.index
  rw [hx, hi]
  simp only [asIntOf]
  rw [run_bind]; simp only [run_pure']
  rw [run_bind_ok (run_underlying ht)]
  simp [h0, hc]

theorem does_idAn {t e : TypeId} {len : Nat} {x i : Operand} {j : TypeInfo} (ht : P.underlying t = some (.array len e)) (ha : aggOf P e = some true) (hj : P.info? e = some j)
    (h : EOp.wp P ρ w Q (.idA x i len j.size (some j.size))) : Does P ρ (.index t x i) T w Q := by
  obtain ⟨cs, k, m, hx, hi, h0, h1, q⟩ := h
  refine does_v (s := Instr.index t (ρ x) (ρ i)) ?_ (fun _ _ _ _ => rfl) q
  unfold Instr.index
  rw [hx, hi]
  simp only [asIntOf]
  rw [run_bind]; simp only [run_pure']
  rw [run_bind_ok (run_underlying ht)]
  simp only [h0, h1, and_self, if_true]
  rw [run_bind_ok (run_sizeOf hj)]
  exact run_part ha hj

theorem does_idA1 {t e : TypeId} {len : Nat} {x i : Operand} {j : TypeInfo} (ht : P.underlying t = some (.array len e)) (ha : aggOf P e = some false) (hj : P.info? e = some j)
    (h : EOp.wp P ρ w Q (.idA x i len j.size none)) : Does P ρ (.index t x i) T w Q := by
  obtain ⟨cs, k, m, hx, hi, h0, h1, v, hv, q⟩ := h
  refine does_v (s := Instr.index t (ρ x) (ρ i)) ?_ (fun _ _ _ _ => rfl) q
  unfold Instr.index
  rw [hx, hi]
  simp only [asIntOf]
  rw [run_bind]; simp only [run_pure']
  rw [run_bind_ok (run_underlying ht)]
  simp only [h0, h1, and_self, if_true]
  rw [run_bind_ok (run_sizeOf hj)]
  exact run_part1 ha hv

theorem does_slS {t e : TypeId} {x : Operand} {lo hi mx : Option Operand} {j : TypeInfo} (ht : P.underlying t = some (.slice e)) (hj : P.info? e = some j)
    (h : EOp.wp P ρ w Q (.slS x j.size lo hi mx)) : Does P ρ (.slice t x lo hi mx) T w Q := by
  obtain ⟨a, len, cap, l, h', m, hx, hm, hh, hl, hmx, h1, h2, h3, q⟩ := h
  refine does_v (s := Instr.sliceAt t (ρ x) (lo.map ρ) (hi.map ρ) (mx.map ρ)) ?_ (fun _ _ _ _ => rfl) q
  unfold Instr.sliceAt
  rw [run_bind_ok (run_underlying ht)]
  simp only
  unfold Instr.slice
  rw [run_bind_ok (run_underlying ht), hx]
  simp only
  rw [run_bind_ok (run_sliceBounds hm hh hl hmx h1 h2 h3)]
  simp only
  rw [run_bind_ok (run_sizeOf hj)]; rfl

theorem does_slA {t e : TypeId} {n : Nat} {x : Operand} {lo hi mx : Option Operand} {j : TypeInfo} (ht : P.underlying t = some (.array n e)) (hj : P.info? e = some j)
    (h : EOp.wp P ρ w Q (.slA x n j.size lo hi mx)) : Does P ρ (.slice t x lo hi mx) T w Q := by
  obtain ⟨a, l, h', m, hx, hm, hh, hl, hmx, h1, h2, h3, q⟩ := h
  refine does_v (s := Instr.sliceAt t (ρ x) (lo.map ρ) (hi.map ρ) (mx.map ρ)) ?_ (fun _ _ _ _ => rfl) q
  unfold Instr.sliceAt
  rw [run_bind_ok (run_underlying ht), hx]
  simp only
  rw [run_bind_ok (run_sure a), run_bind_ok (run_sliceBounds hm hh hl hmx h1 h2 h3)]
  simp only
  rw [run_bind_ok (run_sizeOf hj)]; rfl

theorem does_slT {t : TypeId} {x : Operand} {lo hi : Option Operand} (ht : P.underlying t = some .string)
    (h : EOp.wp P ρ w Q (.slT x lo hi)) : Does P ρ (.slice t x lo hi none) T w Q := by
  obtain ⟨b, l, h', hx, hh, hl, h1, h2, q⟩ := h
  refine does_v (s := Instr.sliceAt t (ρ x) (lo.map ρ) (hi.map ρ) none) ?_ (fun _ _ _ _ => rfl) q
  unfold Instr.sliceAt
  rw [run_bind_ok (run_underlying ht)]
  simp only
  unfold Instr.slice
  rw [run_bind_ok (run_underlying ht), hx]
  simp only [Option.isSome_none, Bool.false_eq_true, if_false]
  have := run_sliceBounds (P := P) (w := w) (isS := false) (mx := none) (cap := b.size) (m := b.size) (len := b.size) rfl hh hl (by simp) h1 h2 (Nat.le_refl _)
  simp only [Option.map_none] at this
  rw [run_bind_ok this]; rfl

theorem does_mks {t e : TypeId} {l c : Operand} {j : TypeInfo} {z : Value} (ht : P.underlying t = some (.slice e)) (hj : P.info? e = some j) (hz : j.zero = some z)
    (hl : (vcells z).length = j.size) (h0 : j.size ≠ 0) (hb : j.bytes ≠ 0) (h : EOp.wp P ρ w Q (.mks e (vcells z) j.bytes l c)) : Does P ρ (.makeSlice t l c) T w Q := by
  obtain ⟨k, k', n, m, hL, hC, hn, hm, hr, q⟩ := h
  refine does_v (s := Instr.makeSlice t (ρ l) (ρ c)) ?_ (fun _ _ _ _ => rfl) q
  unfold Instr.makeSlice
  rw [run_bind_ok (run_underlying ht), hL, hC]
  simp only [asInt, asIntOf]
  rw [run_bind_ok (w' := w) (a := n) (by rw [run_bind]; rfl), run_bind_ok (w' := w) (a := m) (by rw [run_bind]; rfl), run_bind_ok (run_info hj)]
  have hbig : m ≤ 2 ^ 48 := by
    have h1 : (1 : Int) ≤ j.bytes := by omega
    have h2 : 1 * m ≤ (j.bytes : Int) * m := Int.mul_le_mul_of_nonneg_right h1 (by omega)
    omega
  have wn : IntKind.i64.wrap n = n := by unfold IntKind.wrap; simp [IntKind.bits, IntKind.signed]; omega
  have wm : IntKind.i64.wrap m = m := by unfold IntKind.wrap; simp [IntKind.bits, IntKind.signed]; omega
  simp only [wn, wm]
  have c1 : (decide (m < 0) || decide ((j.bytes : Int) * m > 2 ^ 48)) = false := by simp; omega
  have c2 : decide (n < 0) = false := by simp; omega
  have c3 : decide (n > m) = false := by simp; omega
  simp only [c1, c2, c3, Bool.or_self, Bool.false_eq_true, if_false]
  rw [run_bind_ok (run_askRoom _), run_bind_ok (run_sizeOf hj)]
  by_cases hm0 : m.toNat * j.size = 0
  · have : m.toNat = 0 := by rcases Nat.mul_eq_zero.1 hm0 with e | e; exact e; exact absurd e h0
    simp only [hm0, if_true]
    rw [run_bind]; simp only [run_pure']
    rw [run_bind_ok (run_newRow _ _)]
    have hr0 : ∀ f : Nat → Value, Array.map f (Array.range 0) = #[] := fun f => Array.ext' (by simp)
    simp only [run_pure', this, zerosL, List.replicate_zero, List.flatten_nil, hr0]
  · simp only [hm0, if_false]
    rw [run_bind_ok (run_zero hj hz), run_bind]
    simp only [run_pure']
    rw [run_bind_ok (run_newRow _ _), vcells_eq]
    simp only [run_pure']
    congr 3
    rw [← hl]
    exact range_zero _ (by omega) _

theorem does_call {c : Call} {g : FuncId} {fn : Func} (hc : c.callee = .value (.func g)) (hf : P.funcs[g]? = some fn) (hb : fn.body.isSome = true) (hn : (fn.name == "runtime.NumGoroutine") = false)
    (hρ : ρ (.func g) = .func (.func g) #[] #[]) (h : EOp.wp P ρ w Q (.call g c.args)) : Does P ρ (.call c) T w Q := by
  refine ⟨_, w, fun d pos af g' => ?_, h⟩
  show Sem.run P (do let d ← resolve ρ c T; invoke d.target d.args) w = _
  have hr : (resolve ρ c T).run P w = .ok { target := .fn (.func g) #[], args := #[] ++ c.args.map ρ } w := by
    unfold resolve; simp only [hc, hρ, Deferred.ofValue]; rfl
  rw [run_bind_ok hr]
  simp only [invoke, callFunc]
  rw [run_program]
  simp only [hf, hn, Bool.false_eq_true, if_false]
  cases hbo : fn.body with
  | none => rw [hbo] at hb; cases hb
  | some b => simp

theorem does_callv {c : Call} {f : Operand} (hc : c.callee = .value f) (h : EOp.wp P ρ w Q (.callv f c.args)) : Does P ρ (.call c) T w Q := by
  obtain ⟨g, cap, hf, ⟨fn, hfn, hb, hn⟩, q⟩ := h
  refine ⟨_, w, fun d pos af g' => ?_, q⟩
  show Sem.run P (do let d ← resolve ρ c T; invoke d.target d.args) w = _
  have hr : (resolve ρ c T).run P w = .ok { target := .fn (.func g) cap, args := #[] ++ c.args.map ρ } w := by
    unfold resolve; simp only [hc, hf, Deferred.ofValue]; rfl
  rw [run_bind_ok hr]
  simp only [invoke, callFunc]
  rw [run_program]
  simp only [hfn, hn, Bool.false_eq_true, if_false]
  cases hbo : fn.body with
  | none => rw [hbo] at hb; cases hb
  | some b => simp

theorem does_builtin {c : Call} {b : Builtin} {s : Sem Value} {v : Value} {w' : World} (hc : c.callee = .builtin b)
    (hb : ∀ cs, builtin b c.argTypes T cs (c.args.map ρ) = (do pure (Next.value (← s)))) (h : s.run P w = .ok v w') (q : Q (.value v) w') : Does P ρ (.call c) T w Q := by
  refine ⟨_, w', fun d pos af g' => ?_, q⟩
  show Sem.run P (do let d ← resolve ρ c T; invoke d.target d.args) w = _
  have hr : (resolve ρ c T).run P w = .ok { target := .builtin b c.argTypes T (c.args.map fun | .const _ => true | _ => false), args := c.args.map ρ } w := by
    unfold resolve; simp only [hc]; rfl
  rw [run_bind_ok hr]
  simp only [invoke]
  rw [hb]; exact run_v h

theorem does_len {c : Call} {t e : TypeId} {x : Operand} (hc : c.callee = .builtin .len) (ht : c.argTypes[0]? = some t) (hx : c.args[0]? = some x)
    (hd : P.underlying t = some (.slice e)) (h : EOp.wp P ρ w Q (.len x)) : Does P ρ (.call c) T w Q := by
  obtain ⟨a, n, cp, hs, q⟩ := h
  refine does_builtin hc (s := Builtin.len_ c.argTypes T (c.args.map ρ)) (fun _ => rfl) ?_ q
  unfold Builtin.len_
  have hx' : (c.args.map ρ)[0]? = some (ρ x) := by simp [hx]
  simp only [ht, hx']
  rw [run_bind_ok (run_underlying hd), hs]; rfl

theorem does_lenT {c : Call} {t : TypeId} {x : Operand} (hc : c.callee = .builtin .len) (ht : c.argTypes[0]? = some t) (hx : c.args[0]? = some x)
    (hd : P.underlying t = some .string) (h : EOp.wp P ρ w Q (.lenT x)) : Does P ρ (.call c) T w Q := by
  obtain ⟨s, hs, q⟩ := h
  refine does_builtin hc (s := Builtin.len_ c.argTypes T (c.args.map ρ)) (fun _ => rfl) ?_ q
  unfold Builtin.len_
  have hx' : (c.args.map ρ)[0]? = some (ρ x) := by simp [hx]
  simp only [ht, hx']
  rw [run_bind_ok (run_underlying hd), hs]; rfl

theorem does_lenm {c : Call} {t k e : TypeId} {x : Operand} (hc : c.callee = .builtin .len) (ht : c.argTypes[0]? = some t) (hx : c.args[0]? = some x)
    (hd : P.underlying t = some (.map k e)) (h : EOp.wp P ρ w Q (.lenm x)) : Does P ρ (.call c) T w Q := by
  have hx' : (c.args.map ρ)[0]? = some (ρ x) := by simp [hx]
  rcases h with ⟨hs, q⟩ | ⟨r, es, tm, hs, hr, q⟩
  · refine does_builtin hc (s := Builtin.len_ c.argTypes T (c.args.map ρ)) (fun _ => rfl) ?_ q
    unfold Builtin.len_
    simp only [ht, hx']
    rw [run_bind_ok (run_underlying hd), hs]; rfl
  · refine does_builtin hc (s := Builtin.len_ c.argTypes T (c.args.map ρ)) (fun _ => rfl) ?_ q
    unfold Builtin.len_
    simp only [ht, hx']
    rw [run_bind_ok (run_underlying hd), hs]
    have : (getObj r).run P w = .ok (.map es tm) w := by simp [getObj, Sem.run, hr]
    simp only
    rw [run_bind_ok this]; rfl

theorem does_mx2 {c : Call} {x y : Operand} (hc : c.callee = .builtin .max) (ha : c.args = ⟨[x, y]⟩) (h : EOp.wp P ρ w Q (.mx2 x y)) : Does P ρ (.call c) T w Q := by
  obtain ⟨k, k', a, b, hx, hy, q⟩ := h
  refine does_builtin hc (s := Builtin.max_ c.argTypes T (c.args.map ρ)) (fun _ => rfl) ?_ q
  rw [ha]
  have : (Array.map ρ ⟨[x, y]⟩).toList = [ρ x, ρ y] := by simp
  unfold Builtin.max_
  simp only [this, List.foldlM_cons, List.foldlM_nil, hx, hy, Builtin.max2, run_bind, run_pure']

theorem does_mn2 {c : Call} {x y : Operand} (hc : c.callee = .builtin .min) (ha : c.args = ⟨[x, y]⟩) (h : EOp.wp P ρ w Q (.mn2 x y)) : Does P ρ (.call c) T w Q := by
  obtain ⟨k, k', a, b, hx, hy, q⟩ := h
  refine does_builtin hc (s := Builtin.min_ c.argTypes T (c.args.map ρ)) (fun _ => rfl) ?_ q
  rw [ha]
  have : (Array.map ρ ⟨[x, y]⟩).toList = [ρ x, ρ y] := by simp
  unfold Builtin.min_
  simp only [this, List.foldlM_cons, List.foldlM_nil, hx, hy, Builtin.min2, run_bind, run_pure']

theorem does_cpy {c : Call} {t e : TypeId} {x y : Operand} {j : TypeInfo} (hc : c.callee = .builtin .copy) (ht : c.argTypes[0]? = some t) (hx : c.args[0]? = some x) (hy : c.args[1]? = some y)
    (hd : P.underlying t = some (.slice e)) (hj : P.info? e = some j) (h : EOp.wp P ρ w Q (.cpy j.size x y)) : Does P ρ (.call c) T w Q := by
  obtain ⟨base, dLen, cap, n, xs, hX, hn, hs, q⟩ := h
  have hx' : (c.args.map ρ)[0]? = some (ρ x) := by simp [hx]
  have hy' : (c.args.map ρ)[1]? = some (ρ y) := by simp [hy]
  have core : ∀ w', (match base with | some a => storeCells a xs.toArray.toList | none => pure () : Sem Unit).run P w = .ok () w' →
      (Builtin.copy_ c.argTypes T (c.args.map ρ)).run P w = .ok (.int .i64 (Nat.min n dLen : Nat)) w' := by
    intro w' hw
    unfold Builtin.copy_
    simp only [ht, hx', hy']
    rw [run_bind_ok (run_underlying hd), hX]
    simp only
    rw [run_bind_ok (run_lenOf hn), run_bind_ok (run_sizeOf hj), run_bind_ok (run_firstCells hs)]
    cases base with
    | none => simp at hw; subst hw; rfl
    | some a => simp only at hw ⊢; rw [run_bind_ok hw]; rfl
  cases base with
  | none => exact does_builtin hc (s := Builtin.copy_ c.argTypes T (c.args.map ρ)) (fun _ => rfl) (core w rfl) q
  | some a =>
    obtain ⟨hsp, q⟩ := q
    by_cases e0 : xs = []
    · rw [if_pos e0] at q
      subst e0
      exact does_builtin hc (s := Builtin.copy_ c.argTypes T (c.args.map ρ)) (fun _ => rfl) (core w rfl) q
    · rw [if_neg e0] at q
      obtain ⟨L, T', fz, hb, h1, hl, hf, q⟩ := q
      exact does_builtin hc (s := Builtin.copy_ c.argTypes T (c.args.map ρ)) (fun _ => rfl) (core _ (run_cells_store hsp hb h1 hl hf)) q

theorem does_app {c : Call} {t u e : TypeId} {x y : Operand} {j : TypeInfo} {z : Value} (hc : c.callee = .builtin .append) (ht : c.argTypes[0]? = some t) (hu : c.argTypes[1]? = some u)
    (hx : c.args[0]? = some x) (hy : c.args[1]? = some y) (hd : P.underlying t = some (.slice e)) (hdu : P.underlying u = some .string ∨ ∃ f, P.underlying u = some (.slice f)) (hj : P.info? e = some j)
    (hz : j.zero = some z) (hl : (vcells z).length = j.size) (h0 : j.size ≠ 0) (hb0 : j.bytes ≠ 0)
    (h : EOp.wp P ρ w Q (.app e (vcells z) j.bytes x y)) : Does P ρ (.call c) T w Q := by
  obtain ⟨base, sLen, sCap, n, xs, hX, hn, hs, q⟩ := h
  have hx' : (c.args.map ρ)[0]? = some (ρ x) := by simp [hx]
  have hy' : (c.args.map ρ)[1]? = some (ρ y) := by simp [hy]
  rw [hl] at hs q
  have fin : ∀ {v : Value} {w' : World}, (Builtin.append_ c.argTypes T (c.args.map ρ)).run P w = .ok v w' → Q (.value v) w' → Does P ρ (.call c) T w Q :=
    fun hr q => does_builtin hc (s := Builtin.append_ c.argTypes T (c.args.map ρ)) (fun _ => rfl) hr q
  by_cases hroom : sLen + n ≤ sCap
  · rw [if_pos hroom] at q
    have core : ∀ w', (match base with | some a => storeCells (a.add (sLen * j.size)) xs.toArray.toList | none => pure () : Sem Unit).run P w = .ok () w' →
        (Builtin.append_ c.argTypes T (c.args.map ρ)).run P w = .ok (.slice base (sLen + n) sCap) w' := by
      intro w' hw
      unfold Builtin.append_
      simp only [ht, hx', hy', hu]
      rw [run_bind_ok (run_underlying hd), hX]
      simp only
      rw [run_bind_ok (run_sizeOf hj)]
      rcases hdu with hdu | ⟨g, hdu⟩
      all_goals
        rw [run_bind_ok (run_underlying hdu), run_bind]
        simp only [run_pure', Bool.false_eq_true, if_false, Bool.not_false, if_true]
        rw [run_bind_ok (run_lenOf hn)]
        simp only [if_pos hroom]
        rw [run_bind_ok (run_firstCells hs)]
        cases base with
        | none => simp at hw; subst hw; rfl
        | some a => simp only at hw ⊢; rw [run_bind_ok hw]; rfl
    cases base with
    | none => exact fin (core w rfl) q
    | some a =>
      obtain ⟨hsp, q⟩ := q
      by_cases e0 : xs = []
      · rw [if_pos e0] at q
        subst e0
        exact fin (core w rfl) q
      · rw [if_neg e0] at q
        obtain ⟨L, T', fz, hb, h1, hlen, hf, q⟩ := q
        refine fin (core _ ?_) q
        have ha := find_spot a hsp
        simp only
        rw [show a.add (sLen * j.size) = ⟨a.block, a.off + sLen * j.size, none⟩ from by rw [ha, add_mk]]
        exact run_cells_store (a := ⟨a.block, a.off + sLen * j.size, none⟩) rfl hb h1 hlen hf
  · rw [if_neg hroom] at q
    obtain ⟨old, hold, hbig, q⟩ := q
    let cq := Question.appendCap (sLen + n) sCap e
    let cap := cq.cut (w.tape w.drawn cq)
    have hcap : sLen + n ≤ cap := Nat.le_add_right _ _
    refine fin ?_ (q cap hcap)
    have hnc : ¬ (Builtin.nextslicecap (sLen + n) sCap * j.bytes > 2 ^ 48) := by
      have h1 := nextcap_le (sLen + n) sCap (by omega)
      have h2 := Nat.mul_le_mul_right j.bytes h1
      omega
    have shows_drew : ∀ {s m : Nat} {v : Value} {ys : List Value}, shows w s m v ys → shows { w with drawn := w.drawn + 1 } s m v ys := fun h => h
    unfold Builtin.append_
    simp only [ht, hx', hy', hu]
    rw [run_bind_ok (run_underlying hd), hX]
    simp only
    rw [run_bind_ok (run_sizeOf hj)]
    rcases hdu with hdu | ⟨g, hdu⟩
    all_goals
      rw [run_bind_ok (run_underlying hdu), run_bind]
      simp only [run_pure', Bool.false_eq_true, if_false, Bool.not_false, if_true, false_or]
      rw [run_bind_ok (run_lenOf hn)]
      simp only [if_neg hroom]
      rw [run_bind_ok (run_info hj)]
      simp only [hb0, and_false, if_false]
      rw [run_bind_ok (run_info hj)]
      simp only [if_neg hnc]
      rw [run_bind_ok (run_choose cq rfl), run_bind_ok (run_info hj), run_bind_ok (run_askRoom _)]
      rw [← hX, run_bind_ok (run_firstCells (shows_drew hold)), run_bind_ok (run_firstCells (shows_drew hs)), run_bind_ok (run_zero hj hz), run_bind_ok (run_newRow _ _)]
      simp only [run_pure']
      congr 2
      rw [vcells_eq, zeroCells_eq _ (by omega)]
      simp [cap, cq]
end
end Eng
end Go.Proofs.Ytbhlolmglieehaa
