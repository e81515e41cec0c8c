/- Running on from a place within a function: the machine's steps as rules. -/
import Derived.Test.YtbhlolmglieehaaEngA
set_option linter.unusedSimpArgs false
set_option linter.unusedVariables false
namespace Go.Proofs.Ytbhlolmglieehaa
namespace Eng

/-- From this place (what is to do, the temporaries, the world) the function comes to an end of which Z holds. -/
def Goes (P : Program) (f : FuncId) (K : List Item) (a : Act) (w : World) (Z : Ending → World → Prop) : Prop :=
  ∀ (b : Frame) (cs : List Frame), b.fn = f → b.kind = .normal →
    ∃ e w' fr, Z e w' ∧ Comes P (lone (b.at a K) cs w) (lone fr cs w') e ∧ fr.fn = f ∧ fr.leaving P w' e

section
variable {P : Program} {f : FuncId} {K : List Item} {a : Act} {w : World} {Z : Ending → World → Prop}

theorem Goes.mono {Z' : Ending → World → Prop} (g : Goes P f K a w Z) (h : ∀ e w, Z e w → Z' e w) : Goes P f K a w Z' :=
  fun b cs hb hk => let ⟨e, w', fr, z, r⟩ := g b cs hb hk; ⟨e, w', fr, h _ _ z, r⟩

theorem Goes.step {K' : List Item} {a' : Act} {w' : World}
    (s : ∀ (b : Frame) (cs : List Frame), b.fn = f → b.kind = .normal → step P (lone (b.at a K) cs w) = .next (lone (b.at a' K') cs w'))
    (g : Goes P f K' a' w' Z) : Goes P f K a w Z := fun b cs hb hk =>
  let ⟨e, w2, fr, z, c, r⟩ := g b cs hb hk
  ⟨e, w2, fr, z, .of_steps (.one (s b cs hb hk)) c, r⟩

theorem Goes.skip (g : Goes P f K a w Z) : Goes P f (.code .skip :: K) a w Z := g.step fun _ _ _ _ => step_skip
theorem Goes.label {l : Nat} (g : Goes P f K a w Z) : Goes P f (.code (.label l) :: K) a w Z := g.step fun _ _ _ _ => step_label
theorem Goes.seq {x y : Code} (g : Goes P f (.code x :: .code y :: K) a w Z) : Goes P f (.code (.seq x y) :: K) a w Z := g.step fun _ _ _ _ => step_seq
theorem Goes.inBlock {i : Nat} (g : Goes P f K a w Z) : Goes P f (.inBlock i :: K) a w Z := g.step fun _ _ _ _ => step_inBlock
theorem Goes.block {i : Nat} {c : Code} (g : Goes P f (.code c :: .inBlock i :: K) a w Z) : Goes P f (.code (.block i c) :: K) a w Z := g.step fun _ _ _ _ => step_block
theorem Goes.loop {c : Code} (g : Goes P f (.code c :: .inLoop c :: K) a w Z) : Goes P f (.code (.loop c) :: K) a w Z := g.step fun _ _ _ _ => step_loop
theorem Goes.inLoop {c : Code} (g : Goes P f (.code c :: .inLoop c :: K) a w Z) : Goes P f (.inLoop c :: K) a w Z := g.step fun _ _ _ _ => step_inLoop
theorem Goes.cond {c : Operand} {x y : Code} {t : Bool} (h : a.eval c = .bool t) (g : Goes P f (.code (if t then x else y) :: K) a w Z) :
    Goes P f (.code (.cond c x y) :: K) a w Z := g.step fun _ _ _ _ => step_cond h
theorem Goes.exit {i : Nat} {K' : List Item} (h : exitTo i K = some K') (g : Goes P f K' a w Z) : Goes P f (.code (.exit i) :: K) a w Z :=
  g.step fun _ _ _ _ => step_exit h
theorem Goes.region {i : Nat} {ops : Array Oper} (g : Goes P f (.inRegion ops (List.range ops.size) :: K) a w Z) : Goes P f (.code (.region i ops false) :: K) a w Z :=
  g.step fun _ _ _ _ => step_region
theorem Goes.region_end {ops : Array Oper} (g : Goes P f K a w Z) : Goes P f (.inRegion ops [] :: K) a w Z :=
  g.step fun _ _ _ _ => step_region_end
theorem Goes.region_draw {i : Nat} {ops : Array Oper}
    (g : ∀ t, Goes P f (.inRegion ops (Region.schedule (P.follows .mixedOrders) ops t) :: K) a { w with drawn := w.drawn + 1 } Z) :
    Goes P f (.code (.region i ops true) :: K) a w Z := fun b cs hb hk =>
  let ⟨e, w2, fr, z, c, r⟩ := g (w.tape w.drawn (.order b.fn i)) b cs hb hk
  ⟨e, w2, fr, z, .of_steps (.one step_region_draw) c, r⟩

theorem Goes.ret {fn : Func} {v : Value} (hf : P.funcs[f]? = some fn) (hd : a.defers = []) (hr : (results fn a.tmps).run P w = .ok v w)
    (z : Z (.returned v) w) : Goes P f (.code .ret :: K) a w Z := fun b cs hb hk =>
  ⟨.returned v, w, _, z, Steps.one step_ret, hb, rfl, hd, hk, fn, by show P.funcs[b.fn]? = _; rw [hb]; exact hf, hr⟩
theorem Goes.end_ {fn : Func} {v : Value} (hf : P.funcs[f]? = some fn) (hd : a.defers = []) (hr : (results fn a.tmps).run P w = .ok v w)
    (z : Z (.returned v) w) : Goes P f [] a w Z := fun b cs hb hk =>
  ⟨.returned v, w, _, z, Steps.one step_end, hb, rfl, hd, hk, fn, by show P.funcs[b.fn]? = _; rw [hb]; exact hf, hr⟩

/-- an operation that is not wanted -/
theorem Goes.op_skip {ops : Array Oper} {i : Nat} {rest : List Nat} {o : Oper} (ho : ops[i]? = some o) (hw : Region.wanted o (yielded ops a.tmps) = false)
    (g : Goes P f (.inRegion ops rest :: K) (a.put o.dst undef) w Z) : Goes P f (.inRegion ops (i :: rest) :: K) a w Z := by
  refine Goes.step (fun b cs _ _ => ?_) g
  have hs := step_op_skip (P := P) (b := b) (a := a) (k := K) (cs := cs) (w := w) (ops := ops) (i := i) (rest := rest) (by simp [ho]; simpa using hw)
  simpa [ho] using hs

/-- an operation with a value -/
theorem Goes.op_value {ops : Array Oper} {i : Nat} {rest : List Nat} {o : Oper} {v : Value} {w' : World} (ho : ops[i]? = some o)
    (hw : Region.wanted o (yielded ops a.tmps) = true)
    (hr : (execOp a.eval o).run P w = .ok (.value v) w')
    (g : Goes P f (.inRegion ops rest :: K) (a.put o.dst v) w' Z) : Goes P f (.inRegion ops (i :: rest) :: K) a w Z := by
  refine Goes.step (fun b cs _ _ => step_lone_go ?_) g
  have hg := stepG_op (P := P) (b := b) (k := K) (cs := cs) (w := w) (rest := rest) ho hw
  have hfin : (b.at a (.inRegion ops (i :: rest) :: K)).finish v = b.at (a.put o.dst v) (.inRegion ops rest :: K) := by
    rw [Frame.finish_at, ho]; rfl
  rw [hg, ← hfin]; simp [stepG.apply, hr]

/-- an operation without a value -/
theorem Goes.op_done {ops : Array Oper} {i : Nat} {rest : List Nat} {o : Oper} {w' : World} (ho : ops[i]? = some o)
    (hw : Region.wanted o (yielded ops a.tmps) = true)
    (hr : (execOp a.eval o).run P w = .ok .skip w')
    (g : Goes P f (.inRegion ops rest :: K) (a.put o.dst undef) w' Z) : Goes P f (.inRegion ops (i :: rest) :: K) a w Z := by
  refine Goes.step (fun b cs _ _ => step_lone_go ?_) g
  have hg := stepG_op (P := P) (b := b) (k := K) (cs := cs) (w := w) (rest := rest) ho hw
  have hfin : (b.at a (.inRegion ops (i :: rest) :: K)).finish undef = b.at (a.put o.dst undef) (.inRegion ops rest :: K) := by
    rw [Frame.finish_at, ho]; rfl
  rw [hg, ← hfin]; simp [stepG.apply, hr]

/-- an operation that calls -/
theorem Goes.op_call {ops : Array Oper} {i : Nat} {rest : List Nat} {o : Oper} {g : FuncId} {args : Array Value} {w' : World}
    (ho : ops[i]? = some o) (hw : Region.wanted o (yielded ops a.tmps) = true)
    (hr : (execOp a.eval o).run P w = .ok (.enter g args) w')
    (h : Calls P g args w' fun e w2 => ∃ v, e = .returned v ∧ Goes P f (.inRegion ops rest :: K) (a.put o.dst v) w2 Z) :
    Goes P f (.inRegion ops (i :: rest) :: K) a w Z := by
  intro b cs hb hk
  have hg := stepG_op (P := P) (b := b) (k := K) (cs := cs) (w := w) (rest := rest) ho hw
  have hfin : ∀ v, (b.at a (.inRegion ops (i :: rest) :: K)).finish v = b.at (a.put o.dst v) (.inRegion ops rest :: K) := by
    intro v; rw [Frame.finish_at, ho]; rfl
  obtain ⟨e, w2, fr, ⟨v, he, hG⟩, hsteps, _, hleave⟩ := h (b.at a (.inRegion ops (i :: rest) :: K) :: cs)
  subst he
  have henter : Go.step P (lone (b.at a (.inRegion ops (i :: rest) :: K)) cs w) =
      Stepped.next (lone (Frame.enter P g args .normal) (b.at a (.inRegion ops (i :: rest) :: K) :: cs) w') :=
    step_lone_go (by rw [hg]; simp [stepG.apply, hr, Frame.at])
  obtain ⟨e3, w3, fr3, z, c, r⟩ := hG b cs hb hk
  refine ⟨e3, w3, fr3, z, .of_steps (.head henter (Steps.trans hsteps (.one ?_))) c, r⟩
  rw [← hfin]; exact step_leave_returned hleave

theorem calls_of_goes {fn : Func} {c : Code} {args : Array Value} (hf : P.funcs[f]? = some fn) (hb : fn.body = some c)
    (h : Goes P f [.code c] { tmps := args ++ Array.replicate (fn.ntmps - args.size) undef, defers := [] } w Z) : Calls P f args w Z := by
  intro cs
  let b : Frame := { (default : Frame) with fn := f, kind := .normal }
  have henter : Frame.enter P f args .normal = b.at { tmps := args ++ Array.replicate (fn.ntmps - args.size) undef, defers := [] } [.code c] := by
    simp [Frame.enter, Frame.at, hf, hb, b]
  obtain ⟨e, w', fr, z, cm, hfr, hl⟩ := h b cs rfl rfl
  exact ⟨e, w', fr, z, by rw [henter]; exact cm, hfr, hl⟩
end
end Eng
end Go.Proofs.Ytbhlolmglieehaa
