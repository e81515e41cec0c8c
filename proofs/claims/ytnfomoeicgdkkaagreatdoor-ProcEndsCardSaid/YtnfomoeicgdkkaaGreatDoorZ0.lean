/- Heap assertions over blocks: which blocks a piece of code owns, which it only reads, and that nothing else turns. -/
import Derived.Calls
import Derived.Below
set_option linter.unusedSimpArgs false
set_option linter.unusedVariables false
namespace Go.Proofs.YtnfomoeicgdkkaaGreatDoor
namespace Eng

abbrev Hp := Nat → Option Obj

/-- h is a and b, apart -/
structure Split (h a b : Hp) : Prop where
  dis : ∀ n, a n = none ∨ b n = none
  eq : ∀ n, h n = (a n).or (b n)

def join (a b : Hp) : Hp := fun n => (a n).or (b n)
def noHp : Hp := fun _ => none

theorem Split.symm {h a b : Hp} (s : Split h a b) : Split h b a :=
  ⟨fun n => (s.dis n).symm, fun n => by
    rw [s.eq n]
    rcases s.dis n with e | e <;> rw [e] <;> cases a n <;> cases b n <;> simp_all⟩

theorem Split.mk' {a b : Hp} (d : ∀ n, a n = none ∨ b n = none) : Split (join a b) a b := ⟨d, fun _ => rfl⟩

theorem Split.left {h a b : Hp} (s : Split h a b) {n : Nat} {o : Obj} (e : a n = some o) : h n = some o := by
  rw [s.eq n, e]; rfl
theorem Split.right {h a b : Hp} (s : Split h a b) {n : Nat} {o : Obj} (e : b n = some o) : h n = some o :=
  s.symm.left e

theorem Split.none_left {h a b : Hp} (s : Split h a b) {n : Nat} (e : h n = none) : a n = none := by
  rw [s.eq n] at e; cases ha : a n <;> simp_all
theorem Split.none_right {h a b : Hp} (s : Split h a b) {n : Nat} (e : h n = none) : b n = none := s.symm.none_left e

theorem Split.cases {h a b : Hp} (s : Split h a b) {n : Nat} {o : Obj} (e : h n = some o) : a n = some o ∨ b n = some o := by
  rw [s.eq n] at e
  cases ha : a n with
  | none => rw [ha] at e; exact .inr e
  | some x => rw [ha] at e; exact .inl e

theorem Split.assoc {h a bc b c : Hp} (s : Split h a bc) (t : Split bc b c) : Split h (join a b) c ∧ Split (join a b) a b := by
  have dab : ∀ n, a n = none ∨ b n = none := fun n => by
    rcases s.dis n with e | e
    · exact .inl e
    · exact .inr (t.none_left e)
  refine ⟨⟨fun n => ?_, fun n => ?_⟩, Split.mk' dab⟩
  · rcases t.dis n with e | e
    · rcases s.dis n with f | f
      · left; simp [join, e, f]
      · right; exact t.none_right f
    · exact .inr e
  · rw [s.eq n, t.eq n]; simp [join, Option.or_assoc]

theorem Split.assoc' {h ab c a b : Hp} (s : Split h ab c) (t : Split ab a b) : Split h a (join b c) ∧ Split (join b c) b c := by
  have ⟨x, y⟩ := s.symm.assoc t.symm
  refine ⟨?_, ?_⟩
  · have := x.symm
    refine ⟨fun n => ?_, fun n => ?_⟩
    · rcases this.dis n with e | e
      · exact .inl e
      · right; simp only [join] at e ⊢; cases hc : c n <;> cases hb : b n <;> simp_all
    · rw [this.eq n]; congr 1; simp only [join]; rcases y.dis n with e | e <;> rw [e] <;> cases c n <;> cases b n <;> simp_all
  · exact Split.mk' fun n => (y.dis n).symm

theorem Split.empty (h : Hp) : Split h noHp h := ⟨fun _ => .inl rfl, fun _ => rfl⟩

/-- an assertion on memory: a block that is known whole, or anything -/
inductive HA where
  | pt (b : Nat) (o : Obj)
  | abs (p : Hp → Prop)

def HA.holds : HA → Hp → Prop
  | .pt b o, h => h b = some o
  | .abs p, h => p h

/-- several, apart from each other; what else lies there is let go -/
def seps : List HA → Hp → Prop
  | [], _ => True
  | p :: ps, h => ∃ a b, Split h a b ∧ p.holds a ∧ seps ps b

/-- a named group of assertions -/
def grp (I : List HA → Prop) : HA := .abs fun h => ∃ G, I G ∧ seps G h

theorem seps_up {ps : List HA} : ∀ {h a b : Hp}, seps ps b → Split h a b → seps ps h := by
  induction ps with
  | nil => intros; trivial
  | cons p ps ih =>
    intro h a b ⟨x, y, s, hp, hps⟩ t
    have ⟨u, v⟩ := t.symm.assoc' s
    exact ⟨x, _, u, hp, ih hps v.symm⟩

theorem seps_append {xs ys : List HA} : ∀ {h : Hp}, seps (xs ++ ys) h ↔ ∃ a b, Split h a b ∧ seps xs a ∧ seps ys b := by
  induction xs with
  | nil => intro h; exact ⟨fun q => ⟨noHp, h, Split.empty h, trivial, q⟩, fun ⟨_, _, s, _, q⟩ => seps_up q s⟩
  | cons p xs ih =>
    intro h
    constructor
    · rintro ⟨a, b, s, hp, q⟩
      obtain ⟨c, d, t, qx, qy⟩ := ih.1 q
      have ⟨u, v⟩ := s.assoc t
      exact ⟨_, d, u, ⟨a, c, v, hp, qx⟩, qy⟩
    · rintro ⟨a, b, s, ⟨c, d, t, hp, qx⟩, qy⟩
      have ⟨u, v⟩ := s.assoc' t
      exact ⟨c, _, u, hp, ih.2 ⟨d, b, v, qx, qy⟩⟩

theorem seps_tail {p : HA} {ps : List HA} {h : Hp} (q : seps (p :: ps) h) : seps ps h := by
  obtain ⟨a, b, s, _, q⟩ := q; exact seps_up q s

theorem seps_swap {p q : HA} {ps : List HA} {h : Hp} (x : seps (p :: q :: ps) h) : seps (q :: p :: ps) h := by
  obtain ⟨a, b, s, hp, c, d, t, hq, r⟩ := x
  have ⟨u, v⟩ := s.assoc t
  have ⟨u', v'⟩ := u.assoc' v.symm
  exact ⟨c, _, u', hq, a, d, v', hp, r⟩

theorem seps_cons {p : HA} {ps qs : List HA} (f : ∀ h, seps ps h → seps qs h) {h : Hp} (x : seps (p :: ps) h) : seps (p :: qs) h := by
  obtain ⟨a, b, s, hp, q⟩ := x; exact ⟨a, b, s, hp, f _ q⟩

/-- x taken out of a list -/
inductive Sel : List HA → HA → List HA → Prop where
  | here {x H} : Sel (x :: H) x H
  | there {x y H H'} : Sel H x H' → Sel (y :: H) x (y :: H')

theorem Sel.sound {H H' : List HA} {x : HA} (s : Sel H x H') : ∀ {h : Hp}, seps H h → seps (x :: H') h := by
  induction s with
  | here => exact id
  | there _ ih => intro h q; exact seps_swap (seps_cons (fun _ => ih) q)

theorem Sel.back {H H' : List HA} {x : HA} (s : Sel H x H') : ∀ {h : Hp}, seps (x :: H') h → seps H h := by
  induction s with
  | here => exact id
  | there _ ih => intro h q; exact seps_cons (fun _ => ih) (seps_swap q)

inductive Take : List HA → List HA → List HA → Prop where
  | nil {H} : Take H [] H
  | cons {H H1 R p ps} : Sel H p H1 → Take H1 ps R → Take H (p :: ps) R

theorem Take.sound {H ps R : List HA} (t : Take H ps R) : ∀ {h : Hp}, seps H h → seps (ps ++ R) h := by
  induction t with
  | nil => exact id
  | cons s _ ih => intro h q; exact seps_cons (fun _ => ih) (s.sound q)

/-- x in a list, put y in its place -/
inductive Upd : List HA → HA → HA → List HA → Prop where
  | here {x y H} : Upd (x :: H) x y (y :: H)
  | there {x y z H H'} : Upd H x y H' → Upd (z :: H) x y (z :: H')

theorem Upd.sels {H H' : List HA} {x y : HA} (u : Upd H x y H') : ∃ R, Sel H x R ∧ Sel H' y R := by
  induction u with
  | here => exact ⟨_, .here, .here⟩
  | there _ ih => obtain ⟨R, a, b⟩ := ih; exact ⟨_, .there a, .there b⟩

theorem seps_mem {H : List HA} {x : HA} (m : x ∈ H) : ∀ {h : Hp}, seps H h → ∃ a b, Split h a b ∧ x.holds a := by
  induction m with
  | head => intro h ⟨a, b, s, q, _⟩; exact ⟨a, b, s, q⟩
  | tail _ _ ih =>
    intro h ⟨a, b, s, _, q⟩
    obtain ⟨c, d, t, e⟩ := ih q
    have ⟨u, _⟩ := s.symm.assoc' t
    exact ⟨c, _, u, e⟩

theorem seps_mem_pt {H : List HA} {b : Nat} {o : Obj} (m : HA.pt b o ∈ H) {h : Hp} (q : seps H h) : h b = some o := by
  obtain ⟨x, y, s, e⟩ := seps_mem m q; exact s.left e

/-- the world has what is owned (h) and what is only read (F), apart -/
structure Fits (F h : Hp) (w : World) : Prop where
  dis : ∀ n, h n = none ∨ F n = none
  own : ∀ n o, h n = some o → w.heap[n]? = some o
  frm : ∀ n o, F n = some o → w.heap[n]? = some o

structure Keeps (w w' : World) : Prop where
  os : w'.os = w.os
  tape : w'.tape = w.tape
  output : w'.output = w.output
  size : w.heap.size ≤ w'.heap.size

theorem Keeps.refl (w : World) : Keeps w w := ⟨rfl, rfl, rfl, Nat.le_refl _⟩
theorem Keeps.trans {a b c : World} (h : Keeps a b) (k : Keeps b c) : Keeps a c :=
  ⟨k.os.trans h.os, k.tape.trans h.tape, k.output.trans h.output, Nat.le_trans h.size k.size⟩

def Ext (F F' : Hp) : Prop := ∀ n o, F n = some o → F' n = some o
theorem Ext.refl (F : Hp) : Ext F F := fun _ _ e => e
theorem Ext.trans {F G H : Hp} (a : Ext F G) (b : Ext G H) : Ext F H := fun n o e => b n o (a n o e)

theorem Fits.split {F h a b : Hp} {w : World} (f : Fits F h w) (s : Split h a b) : Fits (join F b) a w := by
  refine ⟨fun n => ?_, fun n o e => f.own n o (s.left e), fun n o e => ?_⟩
  · rcases s.dis n with e | e
    · exact .inl e
    · rcases f.dis n with g | g
      · exact .inl (s.none_left g)
      · right; simp [join, e, g]
  · simp only [join] at e
    cases hF : F n with
    | none => rw [hF] at e; exact f.own n o (s.right e)
    | some x => rw [hF] at e; exact f.frm n o (by rw [hF]; exact e)

theorem Fits.unsplit {F b a : Hp} {w : World} (f : Fits (join F b) a w) (d : ∀ n, b n = none ∨ F n = none) : Fits F (join a b) w ∧ Split (join a b) a b := by
  have dab : ∀ n, a n = none ∨ b n = none := fun n => by
    rcases f.dis n with e | e
    · exact .inl e
    · right; simp only [join] at e; cases hF : F n <;> simp_all
  refine ⟨⟨fun n => ?_, fun n o e => ?_, fun n o e => ?_⟩, Split.mk' dab⟩
  · rcases d n with e | e
    · rcases f.dis n with g | g
      · left; simp [join, e, g]
      · right; simp only [join] at g; cases hF : F n <;> simp_all
    · exact .inr e
  · rcases (Split.mk' dab).cases e with g | g
    · exact f.own n o g
    · refine f.frm n o ?_
      rcases d n with x | x
      · rw [x] at g; cases g
      · simp [join, x, g]
  · exact f.frm n o (by simp [join, e])

/-- what is known of the frame: the blocks of a list that are known whole -/
def Known (H : List HA) (F : Hp) : Prop := ∀ b o, HA.pt b o ∈ H → F b = some o

/-- A call's contract: it owns Pre, reads F, ends with a value and memory of which R says what they are. -/
def Spec (P : Program) (f : FuncId) (args : Array Value) (F : Hp) (Pre : List HA) (R : Value → List HA → Prop) : Prop :=
  ∀ w h, seps Pre h → Fits F h w → Calls P f args w fun e w' => ∃ v H' h', e = .returned v ∧ R v H' ∧ seps H' h' ∧ Fits F h' w' ∧ Keeps w w'

theorem Spec.mono {P : Program} {f : FuncId} {args : Array Value} {F : Hp} {Pre : List HA} {R R' : Value → List HA → Prop}
    (s : Spec P f args F Pre R) (m : ∀ v H', R v H' → R' v H') : Spec P f args F Pre R' :=
  fun w h q k => (s w h q k).mono fun _ _ ⟨v, H', h', e, r, x⟩ => ⟨v, H', h', e, m _ _ r, x⟩

/-- the frame rule at a call -/
theorem Spec.frame {P : Program} {f : FuncId} {args : Array Value} {F : Hp} {H Pre Rest : List HA} {R : Value → List HA → Prop}
    (t : Take H Pre Rest) (s : ∀ F', Ext F F' → Known Rest F' → Spec P f args F' Pre R) :
    Spec P f args F H fun v H' => ∃ G, R v G ∧ H' = G ++ Rest := by
  intro w h q k
  obtain ⟨a, b, sp, qa, qb⟩ := seps_append.1 (t.sound q)
  have hb : ∀ n, b n = none ∨ F n = none := fun n => (k.dis n).imp sp.none_right id
  have ext : Ext F (join F b) := fun n o e => by simp [join, e]
  have known : Known Rest (join F b) := fun n o m => by
    have := seps_mem_pt m qb
    rcases hb n with e | e
    · rw [e] at this; cases this
    · simp [join, e, this]
  refine (s (join F b) ext known w a qa (k.split sp)).mono ?_
  rintro e w' ⟨v, H', h', he, r, q', k', kp⟩
  have ⟨k2, s2⟩ := k'.unsplit hb
  exact ⟨v, _, _, he, ⟨H', r, rfl⟩, seps_append.2 ⟨h', b, s2, q', qb⟩, k2, kp⟩

end Eng
end Go.Proofs.YtnfomoeicgdkkaaGreatDoor

/- Running on from a place within a function: the machine's steps as rules. -/
set_option linter.unusedSimpArgs false
set_option linter.unusedVariables false
namespace Go.Proofs.YtnfomoeicgdkkaaGreatDoor
namespace Eng

/-- From this place (what is to do, the temporaries, the world) the function comes to an end of which Z holds. -/
def Goes (P : Program) (f : FuncId) (K : List Item) (a : Act) (w : World) (Z : Ending → World → Prop) : Prop :=
  ∀ (b : Frame) (cs : List Frame), b.fn = f → b.kind = .normal →
    ∃ e w' fr, Z e w' ∧ Comes P (lone (b.at a K) cs w) (lone fr cs w') e ∧ fr.fn = f ∧ fr.leaving P w' e

section
variable {P : Program} {f : FuncId} {K : List Item} {a : Act} {w : World} {Z : Ending → World → Prop}

theorem Goes.mono {Z' : Ending → World → Prop} (g : Goes P f K a w Z) (h : ∀ e w, Z e w → Z' e w) : Goes P f K a w Z' :=
  fun b cs hb hk => let ⟨e, w', fr, z, r⟩ := g b cs hb hk; ⟨e, w', fr, h _ _ z, r⟩

theorem Goes.step {K' : List Item} {a' : Act} {w' : World}
    (s : ∀ (b : Frame) (cs : List Frame), b.fn = f → b.kind = .normal → step P (lone (b.at a K) cs w) = .next (lone (b.at a' K') cs w'))
    (g : Goes P f K' a' w' Z) : Goes P f K a w Z := fun b cs hb hk =>
  let ⟨e, w2, fr, z, c, r⟩ := g b cs hb hk
  ⟨e, w2, fr, z, .of_steps (.one (s b cs hb hk)) c, r⟩

theorem Goes.skip (g : Goes P f K a w Z) : Goes P f (.code .skip :: K) a w Z := g.step fun _ _ _ _ => step_skip
theorem Goes.label {l : Nat} (g : Goes P f K a w Z) : Goes P f (.code (.label l) :: K) a w Z := g.step fun _ _ _ _ => step_label
theorem Goes.seq {x y : Code} (g : Goes P f (.code x :: .code y :: K) a w Z) : Goes P f (.code (.seq x y) :: K) a w Z := g.step fun _ _ _ _ => step_seq
theorem Goes.inBlock {i : Nat} (g : Goes P f K a w Z) : Goes P f (.inBlock i :: K) a w Z := g.step fun _ _ _ _ => step_inBlock
theorem Goes.block {i : Nat} {c : Code} (g : Goes P f (.code c :: .inBlock i :: K) a w Z) : Goes P f (.code (.block i c) :: K) a w Z := g.step fun _ _ _ _ => step_block
theorem Goes.loop {c : Code} (g : Goes P f (.code c :: .inLoop c :: K) a w Z) : Goes P f (.code (.loop c) :: K) a w Z := g.step fun _ _ _ _ => step_loop
theorem Goes.inLoop {c : Code} (g : Goes P f (.code c :: .inLoop c :: K) a w Z) : Goes P f (.inLoop c :: K) a w Z := g.step fun _ _ _ _ => step_inLoop
theorem Goes.cond {c : Operand} {x y : Code} {t : Bool} (h : a.eval c = .bool t) (g : Goes P f (.code (if t then x else y) :: K) a w Z) :
    Goes P f (.code (.cond c x y) :: K) a w Z := g.step fun _ _ _ _ => step_cond h
theorem Goes.exit {i : Nat} {K' : List Item} (h : exitTo i K = some K') (g : Goes P f K' a w Z) : Goes P f (.code (.exit i) :: K) a w Z :=
  g.step fun _ _ _ _ => step_exit h
theorem Goes.region {i : Nat} {ops : Array Oper} (g : Goes P f (.inRegion ops (List.range ops.size) :: K) a w Z) : Goes P f (.code (.region i ops false) :: K) a w Z :=
  g.step fun _ _ _ _ => step_region
theorem Goes.region_end {ops : Array Oper} (g : Goes P f K a w Z) : Goes P f (.inRegion ops [] :: K) a w Z :=
  g.step fun _ _ _ _ => step_region_end
theorem Goes.region_draw {i : Nat} {ops : Array Oper}
    (g : ∀ t, Goes P f (.inRegion ops (Region.schedule (P.follows .mixedOrders) ops t) :: K) a { w with drawn := w.drawn + 1 } Z) :
    Goes P f (.code (.region i ops true) :: K) a w Z := fun b cs hb hk =>
  let ⟨e, w2, fr, z, c, r⟩ := g (w.tape w.drawn (.order b.fn i)) b cs hb hk
  ⟨e, w2, fr, z, .of_steps (.one step_region_draw) c, r⟩

theorem Goes.ret {fn : Func} {v : Value} (hf : P.funcs[f]? = some fn) (hd : a.defers = []) (hr : (results fn a.tmps).run P w = .ok v w)
    (z : Z (.returned v) w) : Goes P f (.code .ret :: K) a w Z := fun b cs hb hk =>
  ⟨.returned v, w, _, z, Steps.one step_ret, hb, rfl, hd, hk, fn, by show P.funcs[b.fn]? = _; rw [hb]; exact hf, hr⟩
theorem Goes.end_ {fn : Func} {v : Value} (hf : P.funcs[f]? = some fn) (hd : a.defers = []) (hr : (results fn a.tmps).run P w = .ok v w)
    (z : Z (.returned v) w) : Goes P f [] a w Z := fun b cs hb hk =>
  ⟨.returned v, w, _, z, Steps.one step_end, hb, rfl, hd, hk, fn, by show P.funcs[b.fn]? = _; rw [hb]; exact hf, hr⟩

/-- an operation that is not wanted -/
theorem Goes.op_skip {ops : Array Oper} {i : Nat} {rest : List Nat} {o : Oper} (ho : ops[i]? = some o) (hw : Region.wanted o (yielded ops a.tmps) = false)
    (g : Goes P f (.inRegion ops rest :: K) (a.put o.dst undef) w Z) : Goes P f (.inRegion ops (i :: rest) :: K) a w Z := by
  refine Goes.step (fun b cs _ _ => ?_) g
  have hs := step_op_skip (P := P) (b := b) (a := a) (k := K) (cs := cs) (w := w) (ops := ops) (i := i) (rest := rest) (by simp [ho]; simpa using hw)
  simpa [ho] using hs

/-- an operation with a value -/
theorem Goes.op_value {ops : Array Oper} {i : Nat} {rest : List Nat} {o : Oper} {v : Value} {w' : World} (ho : ops[i]? = some o)
    (hw : Region.wanted o (yielded ops a.tmps) = true)
    (hr : (execOp a.eval o).run P w = .ok (.value v) w')
    (g : Goes P f (.inRegion ops rest :: K) (a.put o.dst v) w' Z) : Goes P f (.inRegion ops (i :: rest) :: K) a w Z := by
  refine Goes.step (fun b cs _ _ => step_lone_go ?_) g
  have hg := stepG_op (P := P) (b := b) (k := K) (cs := cs) (w := w) (rest := rest) ho hw
  have hfin : (b.at a (.inRegion ops (i :: rest) :: K)).finish v = b.at (a.put o.dst v) (.inRegion ops rest :: K) := by
    rw [Frame.finish_at, ho]; rfl
  rw [hg, ← hfin]; simp [stepG.apply, hr]

/-- an operation without a value -/
theorem Goes.op_done {ops : Array Oper} {i : Nat} {rest : List Nat} {o : Oper} {w' : World} (ho : ops[i]? = some o)
    (hw : Region.wanted o (yielded ops a.tmps) = true)
    (hr : (execOp a.eval o).run P w = .ok .skip w')
    (g : Goes P f (.inRegion ops rest :: K) (a.put o.dst undef) w' Z) : Goes P f (.inRegion ops (i :: rest) :: K) a w Z := by
  refine Goes.step (fun b cs _ _ => step_lone_go ?_) g
  have hg := stepG_op (P := P) (b := b) (k := K) (cs := cs) (w := w) (rest := rest) ho hw
  have hfin : (b.at a (.inRegion ops (i :: rest) :: K)).finish undef = b.at (a.put o.dst undef) (.inRegion ops rest :: K) := by
    rw [Frame.finish_at, ho]; rfl
  rw [hg, ← hfin]; simp [stepG.apply, hr]

/-- an operation that calls -/
theorem Goes.op_call {ops : Array Oper} {i : Nat} {rest : List Nat} {o : Oper} {g : FuncId} {args : Array Value} {w' : World}
    (ho : ops[i]? = some o) (hw : Region.wanted o (yielded ops a.tmps) = true)
    (hr : (execOp a.eval o).run P w = .ok (.enter g args) w')
    (h : Calls P g args w' fun e w2 => ∃ v, e = .returned v ∧ Goes P f (.inRegion ops rest :: K) (a.put o.dst v) w2 Z) :
    Goes P f (.inRegion ops (i :: rest) :: K) a w Z := by
  intro b cs hb hk
  have hg := stepG_op (P := P) (b := b) (k := K) (cs := cs) (w := w) (rest := rest) ho hw
  have hfin : ∀ v, (b.at a (.inRegion ops (i :: rest) :: K)).finish v = b.at (a.put o.dst v) (.inRegion ops rest :: K) := by
    intro v; rw [Frame.finish_at, ho]; rfl
  obtain ⟨e, w2, fr, ⟨v, he, hG⟩, hsteps, _, hleave⟩ := h (b.at a (.inRegion ops (i :: rest) :: K) :: cs)
  subst he
  have henter : Go.step P (lone (b.at a (.inRegion ops (i :: rest) :: K)) cs w) =
      Stepped.next (lone (Frame.enter P g args .normal) (b.at a (.inRegion ops (i :: rest) :: K) :: cs) w') :=
    step_lone_go (by rw [hg]; simp [stepG.apply, hr, Frame.at])
  obtain ⟨e3, w3, fr3, z, c, r⟩ := hG b cs hb hk
  refine ⟨e3, w3, fr3, z, .of_steps (.head henter (Steps.trans hsteps (.one ?_))) c, r⟩
  rw [← hfin]; exact step_leave_returned hleave

theorem calls_of_goes {fn : Func} {c : Code} {args : Array Value} (hf : P.funcs[f]? = some fn) (hb : fn.body = some c)
    (h : Goes P f [.code c] { tmps := args ++ Array.replicate (fn.ntmps - args.size) undef, defers := [] } w Z) : Calls P f args w Z := by
  intro cs
  let b : Frame := { (default : Frame) with fn := f, kind := .normal }
  have henter : Frame.enter P f args .normal = b.at { tmps := args ++ Array.replicate (fn.ntmps - args.size) undef, defers := [] } [.code c] := by
    simp [Frame.enter, Frame.at, hf, hb, b]
  obtain ⟨e, w', fr, z, cm, hfr, hl⟩ := h b cs rfl rfl
  exact ⟨e, w', fr, z, by rw [henter]; exact cm, hfr, hl⟩
end
end Eng
end Go.Proofs.YtnfomoeicgdkkaaGreatDoor

/- What loads, stores and new blocks do to a world of which some blocks are known. -/
set_option linter.unusedSimpArgs false
set_option linter.unusedVariables false
namespace Go.Proofs.YtnfomoeicgdkkaaGreatDoor
namespace Eng

def upd (h : Hp) (b : Nat) (o : Obj) : Hp := fun n => if n = b then some o else h n

def setBlk (w : World) (b : Nat) (o : Obj) : World := { w with heap := w.heap.setIfInBounds b o }
def newBlk (w : World) (o : Obj) : World := { w with heap := w.heap.push o }

theorem setBlk_get {w : World} {b : Nat} {o o' : Obj} (h : w.heap[b]? = some o') (n : Nat) : (setBlk w b o).heap[n]? = if n = b then some o else w.heap[n]? := by
  have hb : b < w.heap.size := by
    rcases Nat.lt_or_ge b w.heap.size with h1 | h1
    · exact h1
    · simp [Array.getElem?_eq_none h1] at h
  simp only [setBlk, Array.getElem?_setIfInBounds]
  by_cases e : n = b
  · subst e; simp [hb]
  · rw [if_neg (by omega), if_neg e]

theorem newBlk_get (w : World) (o : Obj) (n : Nat) : (newBlk w o).heap[n]? = if n = w.heap.size then some o else w.heap[n]? := by
  simp only [newBlk, Array.getElem?_push]

theorem upd_split {h a r : Hp} {b : Nat} {o : Obj} {o' : Obj} (s : Split h a r) (e : a b = some o') : Split (upd h b o) (upd a b o) r := by
  refine ⟨fun n => ?_, fun n => ?_⟩
  · by_cases hn : n = b
    · subst hn; right; rcases s.dis n with x | x
      · rw [x] at e; cases e
      · exact x
    · simp only [upd, if_neg hn]; exact s.dis n
  · by_cases hn : n = b
    · subst hn; simp [upd]
    · simp only [upd, if_neg hn]; exact s.eq n

theorem seps_upd {H H' : List HA} {b : Nat} {o o' : Obj} (u : Upd H (.pt b o) (.pt b o') H') {h : Hp} (q : seps H h) : seps H' (upd h b o') := by
  obtain ⟨R, s, s'⟩ := u.sels
  obtain ⟨a, r, sp, e, qr⟩ := s.sound q
  exact s'.back ⟨upd a b o', r, upd_split sp e, by simp [HA.holds, upd], qr⟩

theorem Upd.mem {H H' : List HA} {x y : HA} (u : Upd H x y H') : x ∈ H := by
  induction u with
  | here => exact .head _
  | there _ ih => exact .tail _ ih

theorem Fits.set {F h : Hp} {w : World} {b : Nat} {o o' : Obj} (f : Fits F h w) (e : h b = some o') : Fits F (upd h b o) (setBlk w b o) := by
  have hw := f.own _ _ e
  refine ⟨fun n => ?_, fun n x hx => ?_, fun n x hx => ?_⟩
  · by_cases hn : n = b
    · subst hn; right; rcases f.dis n with y | y
      · rw [y] at e; cases e
      · exact y
    · simp only [upd, if_neg hn]; exact f.dis n
  · rw [setBlk_get hw]
    by_cases hn : n = b
    · simp only [upd, if_pos hn] at hx; rw [if_pos hn]; exact hx
    · simp only [upd, if_neg hn] at hx; rw [if_neg hn]; exact f.own n x hx
  · rw [setBlk_get hw]
    by_cases hn : n = b
    · subst hn; rcases f.dis n with y | y
      · rw [y] at e; cases e
      · rw [y] at hx; cases hx
    · rw [if_neg hn]; exact f.frm n x hx

theorem Fits.lt {F h : Hp} {w : World} (f : Fits F h w) {n : Nat} {o : Obj} (e : h n = some o) : n < w.heap.size := by
  rcases Nat.lt_or_ge n w.heap.size with h1 | h1
  · exact h1
  · have := f.own n o e; simp [Array.getElem?_eq_none h1] at this

theorem Fits.fresh {F h : Hp} {w : World} (f : Fits F h w) : h w.heap.size = none ∧ F w.heap.size = none := by
  constructor
  · cases e : h w.heap.size with
    | none => rfl
    | some o => have := f.own _ _ e; simp at this
  · cases e : F w.heap.size with
    | none => rfl
    | some o => have := f.frm _ _ e; simp at this

theorem Fits.new {F h : Hp} {w : World} (f : Fits F h w) (o : Obj) : Fits F (upd h w.heap.size o) (newBlk w o) := by
  have ⟨e1, e2⟩ := f.fresh
  refine ⟨fun n => ?_, fun n x hx => ?_, fun n x hx => ?_⟩
  · by_cases hn : n = w.heap.size
    · subst hn; exact .inr e2
    · simp only [upd, if_neg hn]; exact f.dis n
  · rw [newBlk_get]
    by_cases hn : n = w.heap.size
    · simp only [upd, if_pos hn] at hx; rw [if_pos hn]; exact hx
    · simp only [upd, if_neg hn] at hx; rw [if_neg hn]; exact f.own n x hx
  · rw [newBlk_get]
    by_cases hn : n = w.heap.size
    · subst hn; rw [e2] at hx; cases hx
    · rw [if_neg hn]; exact f.frm n x hx

theorem seps_new {H : List HA} {h : Hp} {b : Nat} (o : Obj) (q : seps H h) (e : h b = none) : seps (.pt b o :: H) (upd h b o) := by
  refine ⟨upd noHp b o, h, ⟨fun n => ?_, fun n => ?_⟩, by simp [HA.holds, upd], q⟩
  · by_cases hn : n = b
    · subst hn; exact .inr e
    · left; simp [upd, hn, noHp]
  · by_cases hn : n = b
    · subst hn; simp [upd]
    · simp [upd, hn, noHp]

theorem Keeps.setBlk (w : World) (b : Nat) (o : Obj) : Keeps w (setBlk w b o) := ⟨rfl, rfl, rfl, by simp [Eng.setBlk]⟩
theorem Keeps.newBlk (w : World) (o : Obj) : Keeps w (newBlk w o) := ⟨rfl, rfl, rfl, by simp [Eng.newBlk]⟩
theorem Keeps.drew (w : World) : Keeps w { w with drawn := w.drawn + 1 } := ⟨rfl, rfl, rfl, Nat.le_refl _⟩
theorem Fits.drew {F h : Hp} {w : World} (f : Fits F h w) : Fits F h { w with drawn := w.drawn + 1 } := ⟨f.dis, f.own, f.frm⟩

theorem add_mk (b o n : Nat) : (Addr.mk b o none).add n = ⟨b, o + n, none⟩ := by
  unfold Addr.add; by_cases h : n = 0
  · simp [h]
  · simp [h]

section
variable {P : Program} {w : World} {b : Nat} {L : List Value} {T : TypeId} {fz : Nat × Nat}

@[simp] theorem run_pure {α : Type} (a : α) (P : Program) (w : World) : (Sem.pure a).run P w = .ok a w := rfl
@[simp] theorem run_pure' {α : Type} (a : α) (P : Program) (w : World) : (pure a : Sem α).run P w = .ok a w := rfl
theorem run_bind {α β : Type} (x : Sem α) (f : α → Sem β) (P : Program) (w : World) :
    (x >>= f).run P w = match x.run P w with | .ok a w' => (f a).run P w' | .halt h w' => .halt h w' := by
  show (x.bind f).run P w = _
  induction x generalizing w with
  | pure a => rfl
  | load m a k ih => simp only [Sem.bind, Sem.run]; split <;> (try split) <;> simp_all
  | store m a v k ih =>
    cases v <;> simp only [Sem.bind, Sem.run] <;> (try rfl) <;> (split <;> (try split) <;> simp_all)
  | new o k ih => simp only [Sem.bind, Sem.run]; exact ih _ _
  | shape r k ih => simp only [Sem.bind, Sem.run]; exact ih _ _
  | freeze a n k ih => simp only [Sem.bind, Sem.run]; exact ih _
  | frozen a k ih => simp only [Sem.bind, Sem.run]; exact ih _ _
  | getObj r k ih => simp only [Sem.bind, Sem.run]; split <;> simp_all
  | setObj r o k ih => simp only [Sem.bind, Sem.run]; split <;> simp_all
  | choose q k ih => simp only [Sem.bind, Sem.run]; split <;> exact ih _ _
  | sys c k ih => simp only [Sem.bind, Sem.run]; exact ih _ _
  | program k ih => simp only [Sem.bind, Sem.run]; exact ih _ _
  | mark m k ih => simp only [Sem.bind, Sem.run]; exact ih _
  | halt h => rfl

theorem run_bind_ok {α β : Type} {x : Sem α} {f : α → Sem β} {P : Program} {w w' : World} {a : α} (h : x.run P w = .ok a w') :
    (x >>= f).run P w = (f a).run P w' := by rw [run_bind, h]

theorem cell_of (h : w.heap[b]? = some (.cells L.toArray T fz)) (o : Nat) : w.cell? ⟨b, o, none⟩ = L[o]? := by
  simp [World.cell?, h]

theorem run_load {o : Nat} {v : Value} (h : w.heap[b]? = some (.cells L.toArray T fz)) (hv : L[o]? = some v) : (load ⟨b, o, none⟩).run P w = .ok v w := by
  simp [load, Sem.run, cell_of h, hv]

theorem run_loadCellsFrom (h : w.heap[b]? = some (.cells L.toArray T fz)) (o : Nat) : ∀ (n i : Nat) (acc : Array Value), o + i + n ≤ L.length →
    (loadCellsFrom ⟨b, o, none⟩ i n acc).run P w = .ok (acc ++ ((L.drop (o + i)).take n).toArray) w := by
  intro n
  induction n with
  | zero => intro i acc _; simp [loadCellsFrom]
  | succ n ih =>
    intro i acc hl
    have hi : o + i < L.length := by omega
    have hv : L[o + i]? = some L[o + i] := List.getElem?_eq_getElem hi
    rw [loadCellsFrom, add_mk, run_bind_ok (run_load h hv), ih (i + 1) _ (by omega)]
    congr 1
    rw [show o + (i + 1) = (o + i) + 1 from by omega]
    rw [List.drop_eq_getElem_cons hi, List.take_succ_cons]
    simp only [Array.push_eq_append, Array.append_assoc, List.append_toArray, List.singleton_append]

theorem run_loadCells {o n : Nat} (h : w.heap[b]? = some (.cells L.toArray T fz)) (hl : o + n ≤ L.length) :
    (loadCells ⟨b, o, none⟩ n).run P w = .ok ((L.drop o).take n).toArray w := by
  rw [loadCells, run_loadCellsFrom h o n 0 #[] (by omega)]; simp

theorem setCell_eq (h : w.heap[b]? = some (.cells L.toArray T fz)) (o : Nat) (v : Value) :
    w.setCell ⟨b, o, none⟩ v = setBlk w b (.cells (L.set o v).toArray T fz) := by
  have hb : b < w.heap.size := by
    rcases Nat.lt_or_ge b w.heap.size with h1 | h1
    · exact h1
    · simp [Array.getElem?_eq_none h1] at h
  unfold World.setCell setBlk
  congr 1
  apply Array.ext_getElem?
  intro i
  simp only [Array.getElem?_modify, Array.getElem?_setIfInBounds]
  by_cases e : b = i
  · subst e; rw [h]; simp [hb]
  · simp [e]

def one : Value → Bool
  | .agg _ | .tuple _ => false
  | _ => true

def oneCells (vs : List Value) : Prop := ∀ v ∈ vs, one v = true

theorem store_eq {α : Type} {a : Addr} {v : Value} (hv : one v = true) (k : Sem α) (P : Program) (w : World) :
    (Sem.store Mode.plain a v k).run P w = match w.cell? a with
    | some _ => if w.frozen? a then .halt (.unsupported (.unsafePointer "a write to bytes that a string shares")) w else k.run P (w.setCell a v)
    | none => match w.farStore P a v (Mode.plain == .atomic) with
      | .ok (w, _) => k.run P w
      | .error h => .halt h w := by
  cases v <;> first | rfl | (simp [one] at hv)

theorem run_store {o : Nat} {v : Value} (h : w.heap[b]? = some (.cells L.toArray T fz)) (ho : o < L.length) (hf : (decide (fz.1 ≤ o) && decide (o < fz.2)) = false)
    (hv : one v = true) : (store ⟨b, o, none⟩ v).run P w = .ok () (setBlk w b (.cells (L.set o v).toArray T fz)) := by
  have hc : w.cell? ⟨b, o, none⟩ = some L[o] := by rw [cell_of h]; exact List.getElem?_eq_getElem ho
  have hz : w.frozen? ⟨b, o, none⟩ = false := by simp only [World.frozen?, h]; exact hf
  unfold store
  rw [store_eq hv, hc]
  simp only [hz, Bool.false_eq_true, if_false, Sem.run, setCell_eq h]

theorem run_storeCells (T : TypeId) (fz : Nat × Nat) (o : Nat) : ∀ (vs : List Value) (i : Nat) (L : List Value) (w : World),
    w.heap[b]? = some (.cells L.toArray T fz) → o + i + vs.length ≤ L.length → (∀ j, o + i ≤ j → j < o + i + vs.length → (decide (fz.1 ≤ j) && decide (j < fz.2)) = false) → oneCells vs →
    (storeCells ⟨b, o, none⟩ vs i).run P w = .ok () (if vs = [] then w else setBlk w b (.cells (L.take (o + i) ++ vs ++ L.drop (o + i + vs.length)).toArray T fz)) := by
  intro vs
  induction vs with
  | nil => intros; simp [storeCells]
  | cons v vs ih =>
    intro i L w h hl hf hv
    simp only [List.length_cons] at hl hf
    rw [storeCells, add_mk, run_bind_ok (run_store h (by omega) (hf _ (by omega) (by omega)) (hv v (.head _)))]
    have hb : b < w.heap.size := by
      rcases Nat.lt_or_ge b w.heap.size with h1 | h1
      · exact h1
      · simp [Array.getElem?_eq_none h1] at h
    have h' : (setBlk w b (.cells (L.set (o + i) v).toArray T fz)).heap[b]? = some (.cells (L.set (o + i) v).toArray T fz) := by rw [setBlk_get h]; simp
    rw [ih (i + 1) _ _ h' (by simp; omega) (fun j h1 h2 => hf j (by omega) (by omega)) (fun x hx => hv x (.tail _ hx))]
    have hset : ∀ x : Obj, setBlk (setBlk w b (.cells (L.set (o + i) v).toArray T fz)) b x = setBlk w b x := by intro x; simp [setBlk]
    simp only [reduceCtorEq, if_false]
    by_cases e : vs = []
    · subst e
      simp only [if_true, List.length_nil]
      congr 3
      have hi : o + i < L.length := by omega
      have key : L.set (o + i) v = L.take (o + i) ++ [v] ++ L.drop (o + i + (0 + 1)) := by
        rw [List.set_eq_take_append_cons_drop, if_pos hi]; simp
      rw [key]; rfl
    · rw [if_neg e, hset]
      congr 3
      rw [show o + (i + 1) = (o + i) + 1 from by omega]
      have hi : o + i < L.length := by omega
      have t1 : (L.set (o + i) v).take (o + i + 1) = L.take (o + i) ++ [v] := by
        rw [List.set_eq_take_append_cons_drop, if_pos hi]
        rw [List.take_append]
        simp [List.take_take, Nat.min_eq_left (Nat.le_of_lt hi), show o + i + 1 - (o + i) = 1 by omega]
      have t2 : (L.set (o + i) v).drop (o + i + 1 + vs.length) = L.drop (o + i + (vs.length + 1)) := by
        rw [List.drop_set_of_lt (by omega)]; congr 1; omega
      rw [t1, t2]; simp
end
end Eng
end Go.Proofs.YtnfomoeicgdkkaaGreatDoor

/- The operations with their types resolved, what each asks and gives, and that this is what the model does. -/
set_option linter.unusedSimpArgs false
set_option linter.unusedVariables false
namespace Go.Proofs.YtnfomoeicgdkkaaGreatDoor
namespace Eng

inductive EOp where
  | mv (x : Operand)
  | pick (c a b : Operand)
  | nilc (x : Operand)
  | off (x : Operand) (k : Nat)
  | ld1 (x : Operand)
  | ldn (x : Operand) (n : Nat)
  | st (x y : Operand) (n : Nat)
  | box (x : Operand) (T : TypeId)
  | alloc (z : List Value) (T : TypeId)
  | bin (op : BinOp) (x y : Operand)
  | eqv (d : TypeDesc) (neg : Bool) (x y : Operand)
  | eqa (neg : Bool) (T : TypeId) (k : IntKind) (n : Nat) (x y : Operand)
  | un (op : UnOp) (x : Operand)
  | cvI (k : IntKind) (x : Operand)
  | cvLit (x : Operand)
  | cvSB (T : TypeId) (x : Operand)
  | cvBS (x : Operand)
  | cvSS (x : Operand)
  | len (x : Operand)
  | lenT (x : Operand)
  | lenm (x : Operand)
  | fld (x : Operand) (off : Nat) (n : Option Nat)
  | ext (x : Operand) (i : Nat)
  | ixS (x i : Operand) (s : Nat)
  | ixA (x i : Operand) (len s : Nat)
  | idS (x i : Operand)
  | idA (x i : Operand) (len s : Nat) (n : Option Nat)
  | build (z : List Value) (parts : List (Nat × Nat × Operand))
  | bsl (T : TypeId) (z : List Value) (len : Nat) (parts : List (Nat × Nat × Operand))
  | slS (x : Operand) (s : Nat) (lo hi mx : Option Operand)
  | slA (x : Operand) (n s : Nat) (lo hi mx : Option Operand)
  | slT (x : Operand) (lo hi : Option Operand)
  | mks (T : TypeId) (z : List Value) (bytes : Nat) (l c : Operand)
  | call (g : FuncId) (args : Array Operand)
  | callv (f : Operand) (args : Array Operand)
  | app (T : TypeId) (z : List Value) (bytes : Nat) (x y : Operand)
  | cpy (s : Nat) (x y : Operand)
  | mx2 (x y : Operand)
  | mn2 (x y : Operand)
  | mkf (fn : Fn) (first captured : Array Operand)
  | mki (T : TypeId) (x : Operand)
  | mkm
  | lkp (d : TypeDesc) (z : Value) (ok : Bool) (x i : Operand)
  | mup (d : TypeDesc) (m k v : Operand)
  | del (d : TypeDesc) (m k : Operand)
  | clr (x : Operand)
  | clS (z : List Value) (x : Operand)
  | rngS (x : Operand)
  | rngM (x : Operand)
  | nxtS (it : Operand)
  | nxtM (it : Operand)
  | ent (it : Operand)
  | inv (name : String) (recv : Operand) (args : Array Operand)
  | raw (o : Op) (T : TypeId)
  deriving Inhabited

def vcells : Value → List Value
  | .agg cs => cs.toList
  | v => [v]

theorem vcells_eq (v : Value) : v.cells = (vcells v).toArray := by cases v <;> rfl

/-- a new state of cells, a part put in its place -/
def buildL : List Value → List (Nat × Nat × Value) → Option (List Value)
  | cs, [] => some cs
  | cs, (o, s, v) :: r => if (vcells v).length = s ∧ o + s ≤ cs.length then buildL (cs.take o ++ vcells v ++ cs.drop (o + s)) r else none

def zerosL (z : List Value) (n : Nat) : List Value := (List.replicate n z).flatten

def optN (ρ : Operand → Value) (x : Option Operand) (d : Nat) : Option Nat :=
  match x with
  | none => some d
  | some x => match ρ x with
    | .int _ i => if 0 ≤ i then some i.toNat else none
    | _ => none

def binVal (op : BinOp) : Value → Value → Option Value
  | .int k a, .int k' b =>
    match op with
    | .shl => if b < 0 then none else some (.int k (k.wrap (a * 2 ^ (min b.toNat k.bits))))
    | .shr => if b < 0 then none else some (.int k (a.fdiv (2 ^ (min b.toNat k.bits))))
    | .add => if k = k' then some (.int k (k.wrap (a + b))) else none
    | .sub => if k = k' then some (.int k (k.wrap (a - b))) else none
    | .mul => if k = k' then some (.int k (k.wrap (a * b))) else none
    | .quo => if k = k' then (if b = 0 then none else some (.int k (k.wrap (a.tdiv b)))) else none
    | .rem => if k = k' then (if b = 0 then none else some (.int k (a.tmod b))) else none
    | .and => if k = k' then some (.int k (k.wrap (BitVec.ofInt k.bits a &&& BitVec.ofInt k.bits b).toNat)) else none
    | .or => if k = k' then some (.int k (k.wrap (BitVec.ofInt k.bits a ||| BitVec.ofInt k.bits b).toNat)) else none
    | .xor => if k = k' then some (.int k (k.wrap (BitVec.ofInt k.bits a ^^^ BitVec.ofInt k.bits b).toNat)) else none
    | .andNot => if k = k' then some (.int k (k.wrap (BitVec.ofInt k.bits a &&& ~~~ (BitVec.ofInt k.bits b)).toNat)) else none
    | .eql => if k = k' then some (.bool (decide (a = b))) else none
    | .neq => if k = k' then some (.bool (!decide (a = b))) else none
    | .lss => if k = k' then some (.bool (decide (a < b))) else none
    | .leq => if k = k' then some (.bool (decide (a ≤ b))) else none
    | .gtr => if k = k' then some (.bool (decide (b < a))) else none
    | .geq => if k = k' then some (.bool (decide (b ≤ a))) else none
  | .string a, .string b =>
    match op with
    | .add => if ((a.size + b.size : Nat) : Int) > IntKind.i64.max then none else some (.string (a ++ b))
    | .eql => some (.bool (a.toList == b.toList))
    | .neq => some (.bool !(a.toList == b.toList))
    | .lss => some (.bool (Op.bytesLess a.toList b.toList))
    | .leq => some (.bool (Op.bytesLess a.toList b.toList || a.toList == b.toList))
    | .gtr => some (.bool !(Op.bytesLess a.toList b.toList || a.toList == b.toList))
    | .geq => some (.bool !(Op.bytesLess a.toList b.toList))
    | _ => none
  | _, _ => none

def eqVal : TypeDesc → Value → Value → Option Bool
  | .bool, .bool a, .bool b => some (a == b)
  | .pointer _, .pointer none, .pointer b => some b.isNone
  | .pointer _, .pointer (some _), .pointer none => some false
  | .slice _, .slice none _ _, .slice b _ _ => some b.isNone
  | .slice _, .slice (some _) _ _, .slice none _ _ => some false
  | .map _ _, .map none, .map b => some b.isNone
  | .map _ _, .map (some _), .map none => some false
  | .func _ _ _, .nilFunc, .nilFunc => some true
  | .func _ _ _, .nilFunc, .func _ _ _ => some false
  | .func _ _ _, .func _ _ _, .nilFunc => some false
  | .interface _, .nilIface, .iface _ _ => some false
  | .interface _, .iface _ _, .nilIface => some false
  | _, _, _ => none

def unVal : UnOp → Value → Option Value
  | .neg, .int k n => some (.int k (k.wrap (0 - n)))
  | .xor, .int k n => some (.int k (k.wrap (BitVec.ofInt k.bits (if k.signed then -1 else k.max) ^^^ BitVec.ofInt k.bits n).toNat))
  | .not, .bool b => some (.bool !b)
  | _, _ => none

/-- the cells that a slice or a string shows in a world -/
def shows (w : World) (s n : Nat) (v : Value) (xs : List Value) : Prop :=
  match v with
  | .slice none _ _ => xs = []
  | .slice (some a) _ _ => (n * s = 0 ∧ xs = []) ∨ (a.spot = none ∧ ∃ L T fz, w.heap[a.block]? = some (.cells (List.toArray L) T fz) ∧ a.off + n * s ≤ L.length ∧ xs = (L.drop a.off).take (n * s))
  | .string b => xs = (b.data.toList.take n).map fun x => Value.int .u8 x.toNat
  | _ => False

def lenV : Value → Option Nat
  | .slice _ n _ => some n
  | .string s => some s.size
  | _ => none

/-- a map's entries in a world -/
def mapAt (w : World) : Value → Option (List MapEntry)
  | .map none => some []
  | .map (some r) => match w.heap[r]? with
    | some (.map ⟨es⟩ _) => some es
    | _ => none
  | _ => none
def foundV (z : Value) (ok : Bool) : Option (Nat × Value) → Value
  | some (_, v) => if ok then .tuple [v, .bool true].toArray else v
  | none => if ok then .tuple [z, .bool false].toArray else z
def mapPut (es : List MapEntry) (clock : Nat) (k v : Value) : Option (Nat × Value) → List MapEntry
  | some (i, _) => es.modify i fun e => { e with key := k, val := v }
  | none => es ++ [⟨k, v, clock⟩]
def mapClock (clock : Nat) : Option (Nat × Value) → Nat
  | some _ => clock
  | none => clock + 1
def mapDel (es : List MapEntry) : Option (Nat × Value) → List MapEntry
  | some (i, _) => es.eraseIdx i
  | none => es
def drew (w : World) : World := { w with drawn := w.drawn + 1 }

/-- What an operation asks of values and world, and gives to Q. -/
def EOp.wp (P : Program) (ρ : Operand → Value) (w : World) (Q : Next → World → Prop) : EOp → Prop
  | .mv x => Q (.value (ρ x)) w
  | .pick c a b => ∃ t, ρ c = .bool t ∧ Q (.value (if t then ρ a else ρ b)) w
  | .nilc x => ∃ a, ρ x = .pointer (some a) ∧ Q (.value (.pointer (some a))) w
  | .off x k => ∃ a, ρ x = .pointer (some a) ∧ Q (.value (.pointer (some (a.add k)))) w
  | .ld1 x => ∃ b o L T fz v, ρ x = .pointer (some ⟨b, o, none⟩) ∧ w.heap[b]? = some (.cells (List.toArray L) T fz) ∧ L[o]? = some v ∧ Q (.value v) w
  | .ldn x n => ∃ b o L T fz, ρ x = .pointer (some ⟨b, o, none⟩) ∧ w.heap[b]? = some (.cells (List.toArray L) T fz) ∧ o + n ≤ L.length ∧
      Q (.value (.agg ((L.drop o).take n).toArray)) w
  | .st x y n => ∃ b o L T fz vs, ρ x = .pointer (some ⟨b, o, none⟩) ∧ w.heap[b]? = some (.cells (List.toArray L) T fz) ∧ vcells (ρ y) = vs ∧ vs.length = n ∧ vs ≠ [] ∧ oneCells vs ∧
      o + n ≤ L.length ∧ (∀ j, o ≤ j → j < o + n → (decide (fz.1 ≤ j) && decide (j < fz.2)) = false) ∧
      Q .skip (setBlk w b (.cells (L.take o ++ vs ++ L.drop (o + n)).toArray T fz))
  | .box x T => Q (.value (.pointer (some ⟨w.heap.size, 0, none⟩))) (newBlk w (.cells (vcells (ρ x)).toArray T))
  | .alloc z T => Q (.value (.pointer (some ⟨w.heap.size, 0, none⟩))) (newBlk w (.cells z.toArray T))
  | .bin op x y => ∃ v, binVal op (ρ x) (ρ y) = some v ∧ Q (.value v) w
  | .eqv d neg x y => ∃ t, eqVal d (ρ x) (ρ y) = some t ∧ Q (.value (.bool (if neg then !t else t))) w
  | .un op x => ∃ v, unVal op (ρ x) = some v ∧ Q (.value v) w
  | .cvI k x => ∃ k' n, ρ x = .int k' n ∧ Q (.value (.int k (k.wrap n))) w
  | .cvSS x => ∃ s, ρ x = .string s ∧ Q (.value (.string s)) w
  | .len x => ∃ a n c, ρ x = .slice a n c ∧ Q (.value (.int .i64 n)) w
  | .lenT x => ∃ s, ρ x = .string s ∧ Q (.value (.int .i64 s.size)) w
  | .fld x o n => ∃ cs, ρ x = .agg (List.toArray cs) ∧ (match n with
      | none => ∃ v, cs[o]? = some v ∧ Q (.value v) w
      | some n => Q (.value (.agg ((cs.drop o).take n).toArray)) w)
  | .ext x i => ∃ vs v, ρ x = .tuple vs ∧ vs[i]? = some v ∧ Q (.value v) w
  | .ixS x i s => ∃ a n c k j, ρ x = .slice (some a) n c ∧ ρ i = .int k j ∧ 0 ≤ j ∧ j < (n : Int) ∧ Q (.value (.pointer (some (a.add (j.toNat * s))))) w
  | .ixA x i n s => ∃ a k j, ρ x = .pointer (some a) ∧ ρ i = .int k j ∧ 0 ≤ j ∧ j < (n : Int) ∧ Q (.value (.pointer (some (a.add (j.toNat * s))))) w
  | .idS x i => ∃ b k j c, ρ x = .string b ∧ ρ i = .int k j ∧ 0 ≤ j ∧ b[j.toNat]? = some c ∧ Q (.value (.int .u8 c.toNat)) w
  | .idA x i n s m => ∃ cs k j, ρ x = .agg (List.toArray cs) ∧ ρ i = .int k j ∧ 0 ≤ j ∧ j < (n : Int) ∧ (match m with
      | none => ∃ v, cs[j.toNat * s]? = some v ∧ Q (.value v) w
      | some m => Q (.value (.agg ((cs.drop (j.toNat * s)).take m).toArray)) w)
  | .build z parts => ∃ cs, buildL z (parts.map fun p => (p.1, p.2.1, ρ p.2.2)) = some cs ∧ Q (.value (.agg cs.toArray)) w
  | .bsl T z n parts => ∃ cs, buildL z (parts.map fun p => (p.1, p.2.1, ρ p.2.2)) = some cs ∧
      Q (.value (.slice (some ⟨w.heap.size, 0, none⟩) n n)) (newBlk w (.cells cs.toArray T))
  | .slS x s lo hi mx => ∃ a len cap l h m, ρ x = .slice a len cap ∧ optN ρ mx cap = some m ∧ optN ρ hi len = some h ∧ optN ρ lo 0 = some l ∧ (mx.isSome = true → hi.isSome = true) ∧
      l ≤ h ∧ h ≤ m ∧ m ≤ cap ∧ Q (.value (.slice (if m = l then a else a.map (·.add (l * s))) (h - l) (m - l))) w
  | .slA x n s lo hi mx => ∃ a l h m, ρ x = .pointer (some a) ∧ optN ρ mx n = some m ∧ optN ρ hi n = some h ∧ optN ρ lo 0 = some l ∧ (mx.isSome = true → hi.isSome = true) ∧
      l ≤ h ∧ h ≤ m ∧ m ≤ n ∧ Q (.value (.slice (some (if m = l then a else a.add (l * s))) (h - l) (m - l))) w
  | .slT x lo hi => ∃ b l h, ρ x = .string b ∧ optN ρ hi b.size = some h ∧ optN ρ lo 0 = some l ∧ l ≤ h ∧ h ≤ b.size ∧ Q (.value (.string (b.extract l h))) w
  | .mks T z bytes l c => ∃ k k' n m, ρ l = .int k n ∧ ρ c = .int k' m ∧ 0 ≤ n ∧ n ≤ m ∧ (bytes : Int) * m ≤ 2 ^ 48 ∧
      Q (.value (.slice (some ⟨w.heap.size, 0, none⟩) n.toNat m.toNat)) (newBlk w (.cells (zerosL z m.toNat).toArray T))
  | .call g args => Q (.enter g (args.map ρ)) w
  | .callv f args => ∃ g cap, ρ f = .func (.func g) #[] cap ∧ (∃ fn, P.funcs[g]? = some fn ∧ fn.body.isSome = true ∧ (fn.name == "runtime.NumGoroutine") = false) ∧ Q (.enter g (args.map ρ ++ cap)) w
  | .app T z bytes x y => ∃ base sLen sCap n xs, ρ x = .slice base sLen sCap ∧ lenV (ρ y) = some n ∧ shows w z.length n (ρ y) xs ∧
      (if sLen + n ≤ sCap then
        match base with
        | none => Q (.value (.slice none (sLen + n) sCap)) w
        | some a => a.spot = none ∧ (if xs = [] then Q (.value (.slice base (sLen + n) sCap)) w else
          ∃ L T' fz, w.heap[a.block]? = some (.cells (List.toArray L) T' fz) ∧ oneCells xs ∧ a.off + sLen * z.length + xs.length ≤ L.length ∧
            (∀ j, a.off + sLen * z.length ≤ j → j < a.off + sLen * z.length + xs.length → (decide (fz.1 ≤ j) && decide (j < fz.2)) = false) ∧
            Q (.value (.slice base (sLen + n) sCap)) (setBlk w a.block (.cells (L.take (a.off + sLen * z.length) ++ xs ++ L.drop (a.off + sLen * z.length + xs.length)).toArray T' fz)))
      else ∃ old, shows w z.length sLen (ρ x) old ∧ (2 * (sLen + n) + 1024) * bytes ≤ 2 ^ 48 ∧
        ∀ c, sLen + n ≤ c → Q (.value (.slice (some ⟨w.heap.size, 0, none⟩) (sLen + n) c))
          (newBlk { w with drawn := w.drawn + 1 } (.cells (old ++ xs ++ zerosL z (c - (sLen + n))).toArray T)))
  | .cpy s x y => ∃ base dLen cap n xs, ρ x = .slice base dLen cap ∧ lenV (ρ y) = some n ∧ shows w s (Nat.min n dLen) (ρ y) xs ∧
      (match base with
       | none => Q (.value (.int .i64 (Nat.min n dLen : Nat))) w
       | some a => a.spot = none ∧ (if xs = [] then Q (.value (.int .i64 (Nat.min n dLen : Nat))) w else
          ∃ L T' fz, w.heap[a.block]? = some (.cells (List.toArray L) T' fz) ∧ oneCells xs ∧ a.off + xs.length ≤ L.length ∧
            (∀ j, a.off ≤ j → j < a.off + xs.length → (decide (fz.1 ≤ j) && decide (j < fz.2)) = false) ∧
            Q (.value (.int .i64 (Nat.min n dLen : Nat))) (setBlk w a.block (.cells (L.take a.off ++ xs ++ L.drop (a.off + xs.length)).toArray T' fz))))
  | .mx2 x y => ∃ k k' a b, ρ x = .int k a ∧ ρ y = .int k' b ∧ Q (.value (.int k (if b > a then b else a))) w
  | .mn2 x y => ∃ k k' a b, ρ x = .int k a ∧ ρ y = .int k' b ∧ Q (.value (.int k (if b < a then b else a))) w
  | .mkf fn first cap => Q (.value (.func fn (first.map ρ) (cap.map ρ))) w
  | .mki T x => Q (.value (.iface T (ρ x))) w
  | .cvLit x => ∃ b n c L T fz, ρ x = .slice (some ⟨b, 0, none⟩) n c ∧ w.heap[b]? = some (.cells (List.toArray L) T fz) ∧ fz = (0, 0) ∧
      Q (.value (ρ x)) (setBlk w b (.cells L.toArray T (L.length, L.length + 1)))
  | .cvSB T x => ∃ s, ρ x = .string s ∧ ∀ c, s.size ≤ c → Q (.value (.slice (some ⟨w.heap.size, 0, none⟩) s.size c))
      (newBlk { w with drawn := w.drawn + 1 } (.cells ((s.data.toList.map fun (b : UInt8) => Value.int .u8 b.toNat) ++ List.replicate (c - s.size) (Value.int .u8 0)).toArray T (c, c + 1)))
  | .cvBS x => ∃ (a : Option Addr) (c : Nat) (bs : List UInt8), ρ x = .slice a bs.length c ∧ shows w 1 bs.length (ρ x) (bs.map fun b => Value.int .u8 b.toNat) ∧ Q (.value (.string ⟨bs.toArray⟩)) w
  | .lenm x => (ρ x = .map none ∧ Q (.value (.int .i64 0)) w) ∨ ∃ r es t, ρ x = .map (some r) ∧ w.heap[r]? = some (.map es t) ∧ Q (.value (.int .i64 es.size)) w
  | .eqa neg _ k n x y => ∃ (xs ys : List Int), ρ x = .agg (xs.map (Value.int k)).toArray ∧ ρ y = .agg (ys.map (Value.int k)).toArray ∧ xs.length = n ∧ ys.length = n ∧
      Q (.value (.bool (if neg then !(xs == ys) else xs == ys))) w
  | .mkm => Q (.value (.map (some w.heap.size))) (newBlk w (.map #[] 0))
  | .lkp d z ok x i => ∃ es r, mapAt w (ρ x) = some es ∧ Instr.findNow d (ρ i) es 0 = some r ∧ Q (.value (foundV z ok r)) w
  | .mup d m k v => ∃ r es clock fr, ρ m = .map (some r) ∧ w.heap[r]? = some (.map (List.toArray es) clock) ∧ Instr.findNow d (ρ k) es 0 = some fr ∧ Q .skip (setBlk w r (.map (mapPut es clock (ρ k) (ρ v) fr).toArray (mapClock clock fr)))
  | .del d m k => (ρ m = .map none ∧ Q (.value (.tuple #[])) w) ∨ ∃ r es clock fr, ρ m = .map (some r) ∧ w.heap[r]? = some (.map (List.toArray es) clock) ∧ Instr.findNow d (ρ k) es 0 = some fr ∧ Q (.value (.tuple #[])) (setBlk w r (.map (mapDel es fr).toArray clock))
  | .clr x => ∃ r es clock, ρ x = .map (some r) ∧ w.heap[r]? = some (.map es clock) ∧ Q (.value (.tuple #[])) (setBlk w r (.map #[] clock))
  | .clS z x => ∃ a n c, ρ x = .slice a n c ∧ ((n = 0 ∧ Q (.value (.tuple #[])) w) ∨ ∃ b o L T fz, a = some ⟨b, o, none⟩ ∧ w.heap[b]? = some (.cells (List.toArray L) T fz) ∧ 0 < z.length ∧ oneCells (zerosL z n) ∧ o + n * z.length ≤ L.length ∧
      (∀ j, o ≤ j → j < o + n * z.length → (decide (fz.1 ≤ j) && decide (j < fz.2)) = false) ∧ Q (.value (.tuple #[])) (setBlk w b (.cells (L.take o ++ zerosL z n ++ L.drop (o + n * z.length)).toArray T fz)))
  | .rngS x => ∃ s, ρ x = .string s ∧ Q (.value (.pointer (some ⟨w.heap.size, 0, none⟩))) (newBlk w (.stringIter s 0))
  | .rngM x => (ρ x = .map none ∧ Q (.value (.pointer (some ⟨w.heap.size, 0, none⟩))) (newBlk w (.mapIter none 0 #[] 0))) ∨
      ∃ r es clock, ρ x = .map (some r) ∧ w.heap[r]? = some (.map es clock) ∧ Q (.value (.pointer (some ⟨w.heap.size, 0, none⟩))) (newBlk w (.mapIter (some r) clock #[] clock))
  | .nxtS it => ∃ b s pos, ρ it = .pointer (some ⟨b, 0, none⟩) ∧ w.heap[b]? = some (.stringIter s pos) ∧ (if pos < s.size then
      Q (.value (.tuple [.bool true, .int .i64 pos, .int .i32 (Utf8.decode s pos).1].toArray)) (setBlk w b (.stringIter s (pos + (Utf8.decode s pos).2))) else Q (.value (.tuple [.bool false].toArray)) w)
  | .nxtM it => ∃ b, ρ it = .pointer (some ⟨b, 0, none⟩) ∧ ((∃ x y z, w.heap[b]? = some (.mapIter none x y z) ∧ Q (.value (.tuple [.bool false].toArray)) w) ∨
      ∃ m since seen last es clock, w.heap[b]? = some (.mapIter (some m) since (List.toArray seen) last) ∧ w.heap[m]? = some (.map (List.toArray es) clock) ∧ since ≤ last ∧ (∀ e ∈ es, e.born < since) ∧
        ∀ w', (w' = w ∨ w' = drew w) → (∀ e ∈ es, seen.contains e.born = false → Q (.value (.tuple [.bool true, e.key, e.val].toArray)) (setBlk w' b (.mapIter (some m) since (seen ++ [e.born]).toArray clock))) ∧
          ((∀ e ∈ es, seen.contains e.born = true) → Q (.value (.tuple [.bool false].toArray)) w'))
  | .ent it => ∃ b m since seen es clock stamp e, ρ it = .pointer (some ⟨b, 0, none⟩) ∧ w.heap[b]? = some (.mapIter (some m) since (List.toArray seen) clock) ∧ seen.getLast? = some stamp ∧ w.heap[m]? = some (.map (List.toArray es) clock) ∧
      es.find? (fun e => e.born == stamp) = some e ∧ Q (.value (.tuple [e.key, e.val].toArray)) w
  | .inv name recv args => ∃ t v i m f e fn, ρ recv = .iface t v ∧ P.info? t = some i ∧ i.methods.find? (fun m => m.name == name) = some m ∧ m.path = #[] ∧ m.func = some (f, true) ∧ P.underlying t = some (.pointer e) ∧ P.funcs[f]? = some fn ∧
      fn.body.isSome = true ∧ (fn.name == "runtime.NumGoroutine") = false ∧ Q (.enter f (#[v] ++ args.map ρ)) w
  | .raw o T => ∃ r w', (execOp ρ { (default : Oper) with op := o, type := T }).run P w = .ok r w' ∧ Q r w'

end Eng
end Go.Proofs.YtnfomoeicgdkkaaGreatDoor

/- Operations are resolved by a function, and what it gives is what the model does. -/
set_option linter.unusedSimpArgs false
set_option linter.unusedVariables false
namespace Go.Proofs.YtnfomoeicgdkkaaGreatDoor
namespace Eng

def smallDesc : TypeDesc → Bool
  | .bool | .pointer _ | .slice _ | .map _ _ | .func _ _ _ | .interface _ => true
  | _ => false

def partsAt (place : Nat → Option (Nat × Nat)) (parts : Array (Nat × Operand)) : Option (List (Nat × Nat × Operand)) :=
  parts.toList.mapM fun (i, x) => (place i).map fun p => (p.1, p.2, x)

def aggOf (P : Program) (t : TypeId) : Option Bool :=
  match P.underlying t with
  | some (.struct _) | some (.array _ _) => some true
  | some _ => some false
  | none => none

/-- keys that are held against each other at once -/
def keyD : TypeDesc → Bool
  | .int _ | .string | .bool => true
  | _ => false

/-- how a map's keys are held against each other, and the zero of what it has -/
def mapD (P : Program) (t : TypeId) : Option (TypeDesc × Value) :=
  match P.underlying t with
  | some (.map k e) => match P.underlying k, P.info? e with
    | some d, some i => match i.zero with
      | some z => if keyD d = true then some (d, z) else none
      | none => none
    | _, _ => none
  | _ => none

def compileOp (P : Program) (o : Op) (T : TypeId) : Option EOp :=
  match o with
  | .move x => some (.mv x)
  | .assign x => some (.mv x)
  | .pick c a b => some (.pick c a b)
  | .nilCheck x => some (.nilc x)
  | .alloc t => match P.info? t with
    | some i => i.zero.map fun z => .alloc (vcells z) t
    | none => none
  | .box t x => some (.box x t)
  | .load t x => match aggOf P t with
    | some true => (P.info? t).map fun i => .ldn x i.size
    | some false => some (.ld1 x)
    | none => none
  | .store t x y => (P.info? t).map fun i => .st x y i.size
  | .fieldAddr s x f => match P.underlying s with
    | some (.struct fs) => match fs[f]? with
      | some fd => match P.info? fd.type with
        | some i => if i.size = 0 then none else some (.off x fd.offset)
        | none => none
      | none => none
    | _ => none
  | .binOp op t x y _ => match P.underlying t with
    | some (.int _) | some .string => some (.bin op x y)
    | some (.array n e) => match P.underlying e, op with
      | some (.int k), .eql => if P.eqGuardType P.depth t = false ∧ P.cellsOf e = 1 then some (.eqa false t k n x y) else none
      | some (.int k), .neq => if P.eqGuardType P.depth t = false ∧ P.cellsOf e = 1 then some (.eqa true t k n x y) else none
      | _, _ => none
    | some d => if smallDesc d then (match op with
      | .eql => some (.eqv d false x y)
      | .neq => some (.eqv d true x y)
      | _ => none) else none
    | none => none
  | .unOp op _ x => some (.un op x)
  | .convert s t x => match P.underlying s, P.underlying t with
    | some (.int _), some (.int k) => some (.cvI k x)
    | some .string, some .string => some (.cvSS x)
    | some .string, some (.slice e) => match P.underlying e with
      | some (.int .u8) => some (.cvSB e x)
      | _ => none
    | some (.slice _), some (.slice e) => match P.underlying e with
      | some (.int .u8) => if s = t then some (.cvLit x) else none
      | _ => none
    | some (.slice e), some .string => match P.underlying e with
      | some (.int .u8) => some (.cvBS x)
      | _ => none
    | _, _ => none
  | .field t x f => match P.underlying t with
    | some (.struct fs) => match fs[f]? with
      | some fd => match aggOf P fd.type, P.info? fd.type with
        | some true, some i => some (.fld x fd.offset (some i.size))
        | some false, _ => some (.fld x fd.offset none)
        | _, _ => none
      | none => none
    | _ => none
  | .extract x i => some (.ext x i)
  | .indexAddr t x i => match P.underlying t with
    | some (.slice e) => (P.info? e).map fun j => .ixS x i j.size
    | some (.array n e) => (P.info? e).map fun j => .ixA x i n j.size
    | _ => none
  | .index t x i => match P.underlying t with
    | some .string => some (.idS x i)
    | some (.array n e) => match aggOf P e, P.info? e with
      | some true, some j => some (.idA x i n j.size (some j.size))
      | some false, some j => some (.idA x i n j.size none)
      | _, _ => none
    | _ => none
  | .slice t x lo hi mx => match P.underlying t with
    | some (.slice e) => (P.info? e).map fun j => .slS x j.size lo hi mx
    | some (.array n e) => (P.info? e).map fun j => .slA x n j.size lo hi mx
    | some .string => if mx.isSome then none else some (.slT x lo hi)
    | _ => none
  | .build t parts => match P.info? t, P.underlying t with
    | some i, some (.struct fs) => match i.zero with
      | some z => (partsAt (fun k => (fs[k]?).bind fun f => (P.info? f.type).map fun j => (f.offset, j.size)) parts).bind fun ps =>
          if fs.all fun f => (P.info? f.type).isSome then some (.build (vcells z) ps) else none
      | none => none
    | some i, some (.array _ e) => match i.zero, P.info? e with
      | some z, some j => (partsAt (fun k => some (k * j.size, j.size)) parts).map fun ps => .build (vcells z) ps
      | _, _ => none
    | _, _ => none
  | .buildSlice t n parts => match P.underlying t with
    | some (.slice e) => match P.info? e with
      | some j => match j.zero with
        | some z => if n * j.size > 2 ^ 24 ∨ (vcells z).length ≠ j.size ∨ j.size = 0 then none else
            (partsAt (fun k => some (k * j.size, j.size)) parts).map fun ps => .bsl e (zerosL (vcells z) n) n ps
        | none => none
      | none => none
    | _ => none
  | .makeSlice t l c => match P.underlying t with
    | some (.slice e) => match P.info? e with
      | some j => match j.zero with
        | some z => if (vcells z).length ≠ j.size ∨ j.size = 0 ∨ j.bytes = 0 then none else some (.mks e (vcells z) j.bytes l c)
        | none => none
      | none => none
    | _ => none
  | .makeFunc fn first cap => some (.mkf fn first cap)
  | .makeInterface t x => match P.underlying t with
    | some (.interface _) => none
    | some _ => some (.mki t x)
    | none => none
  | .makeMap t r => match r, P.underlying t with
    | none, some (.map _ _) => some .mkm
    | some (.const (.int .i64 _)), some (.map _ _) => some .mkm
    | _, _ => none
  | .lookup t x i ok => (mapD P t).map fun p => .lkp p.1 p.2 ok x i
  | .mapUpdate t m k v => (mapD P t).map fun p => .mup p.1 m k v
  | .insert t m k v => (mapD P t).map fun p => .mup p.1 m k v
  | .range t x => match P.underlying t with
    | some .string => some (.rngS x)
    | some (.map _ _) => some (.rngM x)
    | _ => none
  | .next it s => if s then some (.nxtS it) else some (.nxtM it)
  | .entry it => some (.ent it)
  | .call c => match c.callee with
    | .invoke recv name => some (.inv name recv c.args)
    | .builtin .delete => match c.argTypes[0]?, c.args[0]?, c.args[1]? with
      | some t, some x, some y => (mapD P t).map fun p => .del p.1 x y
      | _, _, _ => none
    | .builtin .clear => match c.argTypes[0]?, c.args[0]? with
      | some t, some x => match P.underlying t with
        | some (.map _ _) => some (.clr x)
        | some (.slice e) => (P.info? e).bind fun i => i.zero.map fun z => .clS (vcells z) x
        | _ => none
      | _, _ => none
    | .value (.func g) => match P.funcs[g]? with
      | some fn => if fn.body.isSome = true ∧ (fn.name == "runtime.NumGoroutine") = false then some (.call g c.args) else none
      | none => none
    | .value f => some (.callv f c.args)
    | .builtin .len => match c.argTypes[0]?, c.args[0]? with
      | some t, some x => match P.underlying t with
        | some .string => some (.lenT x)
        | some (.slice _) => some (.len x)
        | some (.map _ _) => some (.lenm x)
        | _ => none
      | _, _ => none
    | .builtin .append => match c.argTypes[0]?, c.argTypes[1]?, c.args[0]?, c.args[1]? with
      | some t, some u, some x, some y => match P.underlying t, P.underlying u with
        | some (.slice e), some (.slice _) | some (.slice e), some .string => match P.info? e with
          | some j => match j.zero with
            | some z => if (vcells z).length ≠ j.size ∨ j.size = 0 ∨ j.bytes = 0 then none else some (.app e (vcells z) j.bytes x y)
            | none => none
          | none => none
        | _, _ => none
      | _, _, _, _ => none
    | .builtin .copy => match c.argTypes[0]?, c.args[0]?, c.args[1]? with
      | some t, some x, some y => match P.underlying t with
        | some (.slice e) => (P.info? e).map fun j => .cpy j.size x y
        | _ => none
      | _, _, _ => none
    | .builtin .max => match c.args with
      | ⟨[x, y]⟩ => some (.mx2 x y)
      | _ => none
    | .builtin .min => match c.args with
      | ⟨[x, y]⟩ => some (.mn2 x y)
      | _ => none
    | _ => some (.raw (.call c) T)
  | o => some (.raw o T)

end Eng
end Go.Proofs.YtnfomoeicgdkkaaGreatDoor

/- What the resolved operations say is what the model does. -/
set_option linter.unusedSimpArgs false
set_option linter.unusedVariables false
namespace Go.Proofs.YtnfomoeicgdkkaaGreatDoor
namespace Eng

section
variable {P : Program} {w : World}

theorem run_program {α : Type} (f : Program → Sem α) : (program >>= f).run P w = (f P).run P w := by
  rw [run_bind]; rfl

theorem run_info {t : TypeId} {i : TypeInfo} (h : P.info? t = some i) : (typeInfo t).run P w = .ok i w := by
  unfold typeInfo; rw [run_program, h]; rfl

theorem run_underlying {t : TypeId} {d : TypeDesc} (h : P.underlying t = some d) : (underlying t).run P w = .ok d w := by
  unfold underlying; rw [run_program, h]; rfl

theorem run_sizeOf {t : TypeId} {i : TypeInfo} (h : P.info? t = some i) : (sizeOf t).run P w = .ok i.size w := by
  unfold sizeOf; rw [run_bind_ok (run_info h)]; rfl

theorem run_zero {t : TypeId} {i : TypeInfo} {z : Value} (h : P.info? t = some i) (hz : i.zero = some z) : (zeroValue t).run P w = .ok z w := by
  unfold zeroValue; rw [run_bind_ok (run_info h), hz]; rfl

theorem run_isAgg {t : TypeId} {b : Bool} (h : aggOf P t = some b) : (isAgg t).run P w = .ok b w := by
  unfold aggOf at h; unfold isAgg
  split at h
  · rename_i e; rw [run_bind_ok (run_underlying e)]; cases h; rfl
  · rename_i e; rw [run_bind_ok (run_underlying e)]; cases h; rfl
  · rename_i d h1 h2 e
    rw [run_bind_ok (run_underlying e)]; cases h
    cases d <;> first | rfl | exact (h1 _ rfl).elim | exact (h2 _ _ rfl).elim
  · cases h

theorem run_v {s : Sem Value} {v : Value} {w' : World} (h : s.run P w = .ok v w') :
    (do pure (Next.value (← s)) : Sem Next).run P w = .ok (.value v) w' := by rw [run_bind_ok h]; rfl
theorem run_u {s : Sem Unit} {w' : World} (h : s.run P w = .ok () w') :
    (do s; pure Next.skip : Sem Next).run P w = .ok .skip w' := by rw [run_bind_ok h]; rfl

theorem run_newRow (T : TypeId) (c : Array Value) : (newRow T c).run P w = .ok ⟨w.heap.size, 0, none⟩ (newBlk w (.cells c T)) := by
  unfold newRow newObj; rw [run_bind]; rfl

theorem run_newVar (T : TypeId) (v : Value) : (newVar T v).run P w = .ok ⟨w.heap.size, 0, none⟩ (newBlk w (.cells (vcells v).toArray T)) := by
  unfold newVar; rw [run_newRow, vcells_eq]

theorem run_choose (q : Question) (h : q.forced = false) : (choose q).run P w = .ok (q.cut (w.tape w.drawn q)) { w with drawn := w.drawn + 1 } := by
  simp [choose, Sem.run, h]

theorem run_askRoom (n : Nat) : (askRoom n).run P w = .ok () w := by
  unfold askRoom; split <;> rfl

theorem run_part {t : TypeId} {cs : List Value} {o : Nat} {i : TypeInfo} (ha : aggOf P t = some true) (hi : P.info? t = some i) :
    (part t cs.toArray o).run P w = .ok (.agg ((cs.drop o).take i.size).toArray) w := by
  unfold part; rw [run_bind_ok (run_isAgg ha)]; simp only [if_true]; rw [run_bind_ok (run_sizeOf hi)]
  simp [List.take_drop, Nat.add_comm]

theorem run_part1 {t : TypeId} {cs : List Value} {o : Nat} {v : Value} (ha : aggOf P t = some false) (hv : cs[o]? = some v) :
    (part t cs.toArray o).run P w = .ok v w := by
  unfold part; rw [run_bind_ok (run_isAgg ha)]; simp [hv]

theorem foldl_fillL (cs : List Value) (o : Nat) (vs : List Value) : ∀ (k : Nat), o + k + vs.length ≤ cs.length →
    (vs.zipIdx k).foldl (fun (a : Array Value) (p : Value × Nat) => a.setIfInBounds (o + p.2) p.1) cs.toArray =
      (cs.take (o + k) ++ vs ++ cs.drop (o + k + vs.length)).toArray := by
  induction vs generalizing cs with
  | nil => intro k _; simp
  | cons v vs ih =>
    intro k h
    simp only [List.length_cons] at h
    simp only [List.zipIdx_cons, List.foldl_cons]
    have h2 := ih (cs.set (o + k) v) (k + 1) (by simp; omega)
    rw [List.setIfInBounds_toArray, h2]
    congr 1
    have hi : o + k < cs.length := by omega
    have t1 : (cs.set (o + k) v).take (o + (k + 1)) = cs.take (o + k) ++ [v] := by
      rw [List.set_eq_take_append_cons_drop, if_pos hi, List.take_append]
      have e1 : min (o + (k + 1)) (o + k) = o + k := by omega
      have e2 : o + (k + 1) - (min (o + k) cs.length) = 1 := by omega
      simp only [List.take_take, List.length_take, e1, e2]
      rfl
    have t2 : (cs.set (o + k) v).drop (o + (k + 1) + vs.length) = cs.drop (o + k + (vs.length + 1)) := by
      rw [List.drop_set_of_lt (by omega)]; congr 1; omega
    rw [t1, t2]; simp

theorem foldl_fill (cs : List Value) (o : Nat) (vs : List Value) (h : o + vs.length ≤ cs.length) :
    vs.toArray.zipIdx.foldl (fun (a : Array Value) (p : Value × Nat) => a.setIfInBounds (o + p.2) p.1) cs.toArray =
      (cs.take o ++ vs ++ cs.drop (o + vs.length)).toArray := by
  have := foldl_fillL cs o vs 0 h
  rw [← Array.foldl_toList, Array.toList_zipIdx]
  simpa using this

theorem fill_eq (place : Nat → Option (Nat × Nat)) (ρ : Operand → Value) : ∀ (parts : List (Nat × Operand)) (ps : List (Nat × Nat × Operand)) (cs : List Value) (out : List Value),
    parts.mapM (fun (p : Nat × Operand) => (place p.1).map fun q => (q.1, q.2, p.2)) = some ps →
    buildL cs (ps.map fun p => (p.1, p.2.1, ρ p.2.2)) = some out →
    Instr.fill place cs.toArray (parts.map fun p => (p.1, ρ p.2)) = some out.toArray := by
  intro parts
  induction parts with
  | nil =>
    intro ps cs out h1 h2
    simp at h1; subst h1
    simp [buildL] at h2
    simp [Instr.fill, h2]
  | cons p parts ih =>
    intro ps cs out h1 h2
    obtain ⟨i, x⟩ := p
    simp only [List.mapM_cons, Option.pure_def, Option.bind_eq_bind] at h1
    cases hp : place i with
    | none => simp [hp] at h1
    | some q =>
      obtain ⟨off, size⟩ := q
      cases hr : parts.mapM (fun (p : Nat × Operand) => (place p.1).map fun q => (q.1, q.2, p.2)) with
      | none => simp [hp, hr] at h1
      | some qs =>
        simp [hp, hr] at h1
        subst h1
        simp only [List.map_cons, buildL] at h2
        split at h2
        · rename_i hc
          have := ih qs _ out hr h2
          simp only [List.map_cons, Instr.fill, hp]
          rw [vcells_eq]
          have e1 : ¬ ((vcells (ρ x)).toArray.size ≠ size ∨ off + (vcells (ρ x)).toArray.size > cs.toArray.size) := by simp; omega
          have e2 : ((decide ((vcells (ρ x)).toArray.size ≠ size)) || decide (off + (vcells (ρ x)).toArray.size > cs.toArray.size)) = false := by
            simp; omega
          simp only [Bool.or_eq_true, decide_eq_true_eq, if_neg e1]
          have := foldl_fill cs off (vcells (ρ x)) (by omega)
          rw [this, hc.1]
          assumption
        · cases h2

theorem range_zero (z : List Value) (hz : 0 < z.length) (n : Nat) :
    (Array.range (n * z.length)).map (fun i => z.toArray[i % z.toArray.size]!) = (zerosL z n).toArray := by
  apply Array.ext'
  simp only [Array.toList_map, Array.toList_range, zerosL]
  induction n with
  | zero => simp
  | succ n ih =>
    rw [Nat.add_mul, Nat.one_mul, List.range_add, List.map_append, List.replicate_succ', List.flatten_append]
    simp only [List.flatten_cons, List.flatten_nil, List.append_nil]
    have hl : ((List.range (n * z.length)).map fun i => z.toArray[i % z.toArray.size]!) = (List.replicate n z).flatten := by simpa using ih
    rw [hl]
    congr 1
    rw [List.map_map]
    apply List.ext_getElem
    · simp
    · intro i h1 h2
      simp only [List.length_map, List.length_range] at h1
      simp only [List.getElem_map, List.getElem_range, Function.comp]
      have : (n * z.length + i) % z.toArray.size = i := by
        simp [Nat.add_comm, Nat.add_mul_mod_self_right, Nat.mod_eq_of_lt h1]
      rw [this]
      simp [h1]

theorem zeroCells_eq (z : List Value) (hz : 0 < z.length) (n : Nat) : Builtin.zeroCells z.toArray n = (zerosL z n).toArray := by
  unfold Builtin.zeroCells
  have := range_zero z hz n
  simpa using this

theorem run_sliceBound {i : Int} {k : IntKind} {y : Nat} {c : BoundsCode} (h0 : 0 ≤ i) (h1 : i ≤ y) : (Instr.sliceBound (.int k i) y c).run P w = .ok i.toNat w := by
  unfold Instr.sliceBound asIntOf
  show Sem.run P (Sem.bind _ _) w = _
  simp [Sem.bind, pure, h0, h1, Sem.run]

theorem optN_some {ρ : Operand → Value} {x : Operand} {d n : Nat} (h : optN ρ (some x) d = some n) : ∃ k i, ρ x = .int k i ∧ 0 ≤ i ∧ n = i.toNat := by
  unfold optN at h
  simp only at h
  cases hx : ρ x with
  | int k i =>
    simp only [hx] at h
    split at h
    · rename_i h0; simp at h; exact ⟨k, i, rfl, h0, h.symm⟩
    · cases h
  | _ => simp [hx] at h

theorem run_sliceBounds {ρ : Operand → Value} {isS : Bool} {len cap l h m : Nat} {lo hi mx : Option Operand} (hm : optN ρ mx cap = some m) (hh : optN ρ hi len = some h)
    (hl : optN ρ lo 0 = some l) (hx : mx.isSome = true → hi.isSome = true) (h1 : l ≤ h) (h2 : h ≤ m) (h3 : m ≤ cap) :
    (Instr.sliceBounds isS len cap (lo.map ρ) (hi.map ρ) (mx.map ρ)).run P w = .ok (l, h, m) w := by
  cases mx with
  | none =>
    simp [optN] at hm; subst hm
    cases hi with
    | none =>
      simp [optN] at hh; subst hh
      cases lo with
      | none => simp [optN] at hl; subst hl; rfl
      | some z =>
        obtain ⟨k, i, e, h0, rfl⟩ := optN_some hl
        simp only [Instr.sliceBounds, Option.map, e, run_bind, run_pure', run_sliceBound h0 (show i ≤ ((len : Nat) : Int) from by omega)]
    | some y =>
      obtain ⟨ky, iy, ey, h0y, rfl⟩ := optN_some hh
      cases lo with
      | none =>
        simp [optN] at hl; subst hl
        simp only [Instr.sliceBounds, Option.map, ey, run_bind, run_pure', run_sliceBound h0y (show iy ≤ ((cap : Nat) : Int) from by omega)]
      | some z =>
        obtain ⟨k, i, e, h0, rfl⟩ := optN_some hl
        simp only [Instr.sliceBounds, Option.map, e, ey, run_bind, run_pure', run_sliceBound h0y (show iy ≤ ((cap : Nat) : Int) from by omega), run_sliceBound h0 (show i ≤ ((iy.toNat : Nat) : Int) from by omega)]
  | some x =>
    obtain ⟨kx, ix, ex, h0x, rfl⟩ := optN_some hm
    cases hi with
    | none => simp at hx
    | some y =>
      obtain ⟨ky, iy, ey, h0y, rfl⟩ := optN_some hh
      cases lo with
      | none =>
        simp [optN] at hl; subst hl
        simp only [Instr.sliceBounds, Option.map, ex, ey, run_bind, run_pure', run_sliceBound h0x (show ix ≤ ((cap : Nat) : Int) from by omega), run_sliceBound h0y (show iy ≤ ((ix.toNat : Nat) : Int) from by omega)]
      | some z =>
        obtain ⟨k, i, e, h0, rfl⟩ := optN_some hl
        simp only [Instr.sliceBounds, Option.map, e, ex, ey, run_bind, run_pure', run_sliceBound h0x (show ix ≤ ((cap : Nat) : Int) from by omega), run_sliceBound h0y (show iy ≤ ((ix.toNat : Nat) : Int) from by omega), run_sliceBound h0 (show i ≤ ((iy.toNat : Nat) : Int) from by omega)]

theorem run_lenOf {v : Value} {n : Nat} (h : lenV v = some n) : (Builtin.lenOf v).run P w = .ok n w := by
  unfold lenV at h; unfold Builtin.lenOf
  split at h <;> cases h <;> rfl

theorem run_firstCells {s n : Nat} {v : Value} {xs : List Value} (h : shows w s n v xs) : (Builtin.firstCells s n v).run P w = .ok xs.toArray w := by
  unfold shows at h
  split at h
  · subst h; simp [Builtin.firstCells]
  · rename_i a len cap
    rcases h with ⟨h0, rfl⟩ | ⟨hs, L, T, fz, hb, hl, rfl⟩
    · simp only [Builtin.firstCells, h0, loadCells, loadCellsFrom]; rfl
    obtain ⟨b, o, sp⟩ := a
    simp only at hs hb hl; subst hs
    exact run_loadCells hb hl
  · rename_i b
    subst h
    simp only [Builtin.firstCells, run_pure']
    congr 1
    apply Array.ext'
    simp
  · exact h.elim

theorem shows_len {s n : Nat} {v : Value} {xs : List Value} (h : shows w s n v xs) : xs.length ≤ n * s ∨ ∃ b, v = .string b := by
  unfold shows at h
  split at h
  · subst h; left; simp
  · rcases h with ⟨_, rfl⟩ | ⟨_, L, T, fz, _, hl, rfl⟩
    · left; simp
    · left; simp; omega
  · exact .inr ⟨_, rfl⟩
  · exact h.elim
end
end Eng
end Go.Proofs.YtnfomoeicgdkkaaGreatDoor

/- The resolved operations are sound. -/
set_option linter.unusedSimpArgs false
set_option linter.unusedVariables false
namespace Go.Proofs.YtnfomoeicgdkkaaGreatDoor
namespace Eng

/-- the operation runs to something of which Q holds -/
def Does (P : Program) (ρ : Operand → Value) (o : Op) (T : TypeId) (w : World) (Q : Next → World → Prop) : Prop :=
  ∃ r w', (∀ d pos af g, (execOp ρ ⟨d, o, T, pos, af, g⟩).run P w = .ok r w') ∧ Q r w'

section
variable {P : Program} {w : World} {ρ : Operand → Value} {T : TypeId} {Q : Next → World → Prop}

theorem does_v {o : Op} {s : Sem Value} {v : Value} {w' : World} (h : s.run P w = .ok v w')
    (e : ∀ d pos af g, execOp ρ ⟨d, o, T, pos, af, g⟩ = (do pure (Next.value (← s)))) (q : Q (.value v) w') : Does P ρ o T w Q :=
  ⟨_, _, fun d pos af g => by rw [e]; exact run_v h, q⟩

theorem does_u {o : Op} {s : Sem Unit} {w' : World} (h : s.run P w = .ok () w')
    (e : ∀ d pos af g, execOp ρ ⟨d, o, T, pos, af, g⟩ = (do s; pure Next.skip)) (q : Q .skip w') : Does P ρ o T w Q :=
  ⟨_, _, fun d pos af g => by rw [e]; exact run_u h, q⟩

theorem run_bin {op : BinOp} {t : TypeId} {a b v : Value} (h : binVal op a b = some v) : (binOp op t a b).run P w = .ok v w := by
  unfold binVal at h
  split at h
  · rename_i k a k' b
    cases op
    case shl => simp only at h; split at h <;> cases h; rename_i hb; simp [binOp, Op.shift, hb]
    case shr => simp only at h; split at h <;> cases h; rename_i hb; simp [binOp, Op.shift, hb]
    case quo =>
      simp only at h
      split at h
      · rename_i hk
        split at h
        · cases h
        · rename_i hb; cases h; subst hk; simp [binOp, Op.intDiv, hb]
      · cases h
    case rem =>
      simp only at h
      split at h
      · rename_i hk
        split at h
        · cases h
        · rename_i hb; cases h; subst hk; simp [binOp, Op.intDiv, hb]
      · cases h
    all_goals
      simp only at h; split at h
      · rename_i hk
        cases h
        subst hk
        first
          | (simp [binOp, Op.intArith, Op.intBits, Op.intCmp]; done)
          | (simp only [binOp, Op.intCmp, ne_eq, not_true_eq_false, if_false, run_pure']; done)
          | (simp only [binOp, Op.intCmp, ne_eq, not_true_eq_false, if_false, run_pure']; rfl)
      · cases h
  · rename_i a b
    cases op <;> simp only at h
    case add =>
      split at h
      · cases h
      · rename_i hb; cases h
        simp only [binOp, Op.stringOp, if_neg hb, run_pure']
    all_goals first
      | (cases h; done)
      | (cases h; rfl)
  · cases h

theorem eqGuard_bin {op op' : BinOp} {t : TypeId} {x y : Operand} {a b v : Value} (h : binVal op a b = some v) : (eqGuard op' t x y a b).run P w = .ok () w := by
  unfold binVal at h
  split at h
  · cases op' <;> rfl
  · cases op' <;> rfl
  · cases h

theorem run_eqv {t : TypeId} {d : TypeDesc} {a b : Value} {r : Bool} (hd : P.underlying t = some d) (h : eqVal d a b = some r) : (Op.equal t a b).run P w = .ok r w := by
  unfold Op.equal
  show (Op.equalIn (9999 + 1) t a b).run P w = _
  unfold Op.equalIn
  rw [run_bind_ok (run_underlying hd)]
  unfold eqVal at h
  split at h <;> cases h <;> rfl

theorem eqGuard_eqv {op : BinOp} {t : TypeId} {d : TypeDesc} {x y : Operand} {a b : Value} {r : Bool} (h : eqVal d a b = some r) : (eqGuard op t x y a b).run P w = .ok () w := by
  unfold eqVal at h
  split at h <;> first | (cases h; done) | (cases op <;> rfl)

theorem run_un {op : UnOp} {x v : Value} (h : unVal op x = some v) : (Op.unary op x).run P w = .ok v w := by
  unfold unVal at h
  split at h <;> cases h <;> rfl


theorem find_spot (a : Addr) (h : a.spot = none) : a = ⟨a.block, a.off, none⟩ := by cases a; simp_all

theorem setBlk_self {b : Nat} {o : Obj} (h : w.heap[b]? = some o) : setBlk w b o = w := by
  unfold setBlk
  have hb : b < w.heap.size := by
    rcases Nat.lt_or_ge b w.heap.size with h1 | h1
    · exact h1
    · simp [Array.getElem?_eq_none h1] at h
  have : w.heap.setIfInBounds b o = w.heap := by
    apply Array.ext_getElem?
    intro i
    rw [Array.getElem?_setIfInBounds]
    split
    · rename_i e; subst e; exact h.symm
    · rfl
  rw [this]

theorem run_cells_store {a : Addr} {xs L : List Value} {T : TypeId} {fz : Nat × Nat} (hs : a.spot = none) (hb : w.heap[a.block]? = some (.cells L.toArray T fz)) (h1 : oneCells xs)
    (hl : a.off + xs.length ≤ L.length) (hf : ∀ j, a.off ≤ j → j < a.off + xs.length → (decide (fz.1 ≤ j) && decide (j < fz.2)) = false) :
    (storeCells a xs).run P w = .ok () (setBlk w a.block (.cells (L.take a.off ++ xs ++ L.drop (a.off + xs.length)).toArray T fz)) := by
  rw [find_spot a hs]
  have := run_storeCells (P := P) (b := a.block) T fz a.off xs 0 L w hb (by omega) (fun j x y => hf j (by omega) (by omega)) h1
  simp only [Nat.add_zero] at this
  rw [this]
  by_cases e : xs = []
  · subst e
    simp only [if_true, List.append_nil, List.length_nil, Nat.add_zero, List.take_append_drop]
    rw [setBlk_self hb]
  · rw [if_neg e]

theorem mapM_map {α β : Type} (parts : Array (Nat × Operand)) (ρ : Operand → Value) : (parts.map fun (i, x) => (i, ρ x)).toList = parts.toList.map fun p => (p.1, ρ p.2) := by simp

theorem nextcap_le (need c : Nat) (h : c < need) : Builtin.nextslicecap need c ≤ 2 * need + 1024 := by
  have g : ∀ (r c : Nat), c < need → Builtin.growBy need r c ≤ 2 * need + 1024 := by
    intro r
    induction r with
    | zero => intro c h; simp only [Builtin.growBy]; omega
    | succ r ih =>
      intro c h
      simp only [Builtin.growBy]
      split
      · omega
      · by_cases h2 : c + (c + 768) / 4 < need
        · exact ih _ h2
        · cases r with
          | zero => simp only [Builtin.growBy]; omega
          | succ r => simp only [Builtin.growBy]; rw [if_pos (by omega)]; omega
  unfold Builtin.nextslicecap
  split
  · omega
  · split
    · omega
    · exact g 4 c h
end
end Eng
end Go.Proofs.YtnfomoeicgdkkaaGreatDoor

/- The resolved operations are sound: all of them. -/
set_option linter.unusedSimpArgs false
set_option linter.unusedVariables false
namespace Go.Proofs.YtnfomoeicgdkkaaGreatDoor
namespace Eng

section
variable {P : Program} {w : World} {ρ : Operand → Value} {T : TypeId} {Q : Next → World → Prop}

theorem does_alloc {t : TypeId} {i : TypeInfo} {z : Value} (hi : P.info? t = some i) (hz : i.zero = some z) (h : EOp.wp P ρ w Q (.alloc (vcells z) t)) : Does P ρ (.alloc t) T w Q := by
  refine does_v (s := Instr.alloc t true (.tuple #[])) ?_ (fun _ _ _ _ => rfl) h
  unfold Instr.alloc
  rw [run_bind_ok (run_zero hi hz)]
  show Sem.run P (do pure (Value.pointer (some (← newVar t z))) : Sem Value) w = _
  rw [run_bind_ok (run_newVar t z)]; rfl

theorem does_box {t : TypeId} {x : Operand} (h : EOp.wp P ρ w Q (.box x t)) : Does P ρ (.box t x) T w Q := by
  refine does_v (s := Instr.box t (ρ x)) ?_ (fun _ _ _ _ => rfl) h
  unfold Instr.box
  rw [run_bind_ok (run_newVar t (ρ x))]; rfl

theorem run_sure (a : Addr) : (Instr.sureAddr (.pointer (some a))).run P w = .ok a w := rfl

theorem does_ldn {t : TypeId} {x : Operand} {i : TypeInfo} (ha : aggOf P t = some true) (hi : P.info? t = some i) (h : EOp.wp P ρ w Q (.ldn x i.size)) : Does P ρ (.load t x) T w Q := by
  obtain ⟨b, o, L, T', fz, hx, hb, hl, q⟩ := h
  refine does_v (s := Instr.loadAt t (ρ x)) ?_ (fun _ _ _ _ => rfl) q
  unfold Instr.loadAt loadVar
  rw [hx, run_bind_ok (run_sure _), run_bind_ok (run_isAgg ha)]
  simp only [if_true]
  rw [run_bind_ok (run_sizeOf hi), run_bind_ok (run_loadCells hb hl)]; rfl

theorem does_ld1 {t : TypeId} {x : Operand} (ha : aggOf P t = some false) (h : EOp.wp P ρ w Q (.ld1 x)) : Does P ρ (.load t x) T w Q := by
  obtain ⟨b, o, L, T', fz, v, hx, hb, hl, q⟩ := h
  refine does_v (s := Instr.loadAt t (ρ x)) ?_ (fun _ _ _ _ => rfl) q
  unfold Instr.loadAt loadVar
  rw [hx, run_bind_ok (run_sure _), run_bind_ok (run_isAgg ha)]
  exact run_load hb hl

theorem does_st {t : TypeId} {x y : Operand} {i : TypeInfo} (hi : P.info? t = some i) (h : EOp.wp P ρ w Q (.st x y i.size)) : Does P ρ (.store t x y) T w Q := by
  obtain ⟨b, o, L, T', fz, vs, hx, hb, hy, hn, hne, h1, hl, hf, q⟩ := h
  refine does_u (s := Instr.storeAt t (ρ x) (ρ y)) ?_ (fun _ _ _ _ => rfl) q
  unfold Instr.storeAt storeVar
  rw [hx, run_bind_ok (run_sure _), run_bind_ok (run_sizeOf hi)]
  have hs : (ρ y).cells = vs.toArray := by rw [vcells_eq, hy]
  rw [hs]
  have e : ¬ (vs.toArray.size ≠ i.size) := by simp [hn]
  simp only [if_neg e]
  show Sem.run P (storeCells ⟨b, o, none⟩ vs) w = _
  have := run_cells_store (P := P) (a := ⟨b, o, none⟩) rfl hb h1 (by rw [hn]; exact hl) (by rw [hn]; exact hf)
  rw [hn] at this
  exact this

theorem does_off {s : TypeId} {x : Operand} {f : Nat} {fs : Array Field} {fd : Field} {i : TypeInfo} (hs : P.underlying s = some (.struct fs)) (hf : fs[f]? = some fd) (hi : P.info? fd.type = some i) (h0 : ¬ i.size = 0)
    (h : EOp.wp P ρ w Q (.off x fd.offset)) : Does P ρ (.fieldAddr s x f) T w Q := by
  obtain ⟨a, hx, q⟩ := h
  refine does_v (s := Instr.fieldAt s (ρ x) f) ?_ (fun _ _ _ _ => rfl) q
  unfold Instr.fieldAt
  rw [run_bind_ok (run_underlying hs)]
  simp only [hf, hx]
  rw [run_bind_ok (run_sure a)]
  unfold fieldPlace
  have : ((do if (← sizeOf fd.type) = 0 then partAt a fd.offset fd.byteOffset else pure (a.add fd.offset)) : Sem Addr).run P w = .ok (a.add fd.offset) w := by
    rw [run_bind_ok (run_sizeOf hi), if_neg h0]; rfl
  rw [run_bind_ok this]; rfl

theorem does_bin {op : BinOp} {t t' : TypeId} {x y : Operand} (h : EOp.wp P ρ w Q (.bin op x y)) : Does P ρ (.binOp op t x y t') T w Q := by
  obtain ⟨v, hv, q⟩ := h
  refine does_v (s := do eqGuard op t x y (ρ x) (ρ y); binOp op t (ρ x) (ρ y)) ?_ (fun _ _ _ _ => rfl) q
  rw [run_bind_ok (eqGuard_bin hv)]
  exact run_bin hv

theorem does_eqv {neg : Bool} {t t' : TypeId} {d : TypeDesc} {x y : Operand} (hd : P.underlying t = some d) (h : EOp.wp P ρ w Q (.eqv d neg x y)) :
    Does P ρ (.binOp (if neg then .neq else .eql) t x y t') T w Q := by
  obtain ⟨r, hr, q⟩ := h
  refine does_v (s := do eqGuard (if neg then .neq else .eql) t x y (ρ x) (ρ y); binOp (if neg then .neq else .eql) t (ρ x) (ρ y)) ?_ (fun _ _ _ _ => rfl) q
  rw [run_bind_ok (eqGuard_eqv hr)]
  have he := run_eqv (w := w) hd hr
  have h2 : ∀ neg : Bool, (binOp (if neg then .neq else .eql) t (ρ x) (ρ y)).run P w = .ok (.bool (if neg then !r else r)) w := by
    intro neg
    generalize hX : ρ x = X at *
    generalize hY : ρ y = Y at *
    unfold eqVal at hr
    cases neg with
    | false =>
      have : (do pure (Value.bool (← Op.equal t X Y)) : Sem Value).run P w = .ok (.bool r) w := by rw [run_bind_ok he]; rfl
      split at hr <;> first | (cases hr; done) | exact this
    | true =>
      have : (do pure (Value.bool (!(← Op.equal t X Y))) : Sem Value).run P w = .ok (.bool !r) w := by rw [run_bind_ok he]; rfl
      split at hr <;> first | (cases hr; done) | exact this
  exact h2 neg

theorem does_un {op : UnOp} {t : TypeId} {x : Operand} (h : EOp.wp P ρ w Q (.un op x)) : Does P ρ (.unOp op t x) T w Q := by
  obtain ⟨v, hv, q⟩ := h
  exact does_v (s := Op.unary op (ρ x)) (run_un hv) (fun _ _ _ _ => rfl) q

theorem does_cvI {s t : TypeId} {j k : IntKind} {x : Operand} (hs : P.underlying s = some (.int j)) (ht : P.underlying t = some (.int k)) (h : EOp.wp P ρ w Q (.cvI k x)) :
    Does P ρ (.convert s t x) T w Q := by
  obtain ⟨k', n, hx, q⟩ := h
  refine does_v (s := convert s t (ρ x)) ?_ (fun _ _ _ _ => rfl) q
  unfold convert
  rw [run_bind_ok (run_underlying hs), run_bind_ok (run_underlying ht), hx]; rfl

theorem does_cvSS {s t : TypeId} {x : Operand} (hs : P.underlying s = some .string) (ht : P.underlying t = some .string) (h : EOp.wp P ρ w Q (.cvSS x)) :
    Does P ρ (.convert s t x) T w Q := by
  obtain ⟨n, hx, q⟩ := h
  refine does_v (s := convert s t (ρ x)) ?_ (fun _ _ _ _ => rfl) q
  unfold convert
  rw [run_bind_ok (run_underlying hs), run_bind_ok (run_underlying ht), hx]; rfl

theorem shape_of {b : Nat} {L : List Value} {T' : TypeId} {fz : Nat × Nat} (hb : w.heap[b]? = some (.cells L.toArray T' fz)) : w.shape? b = some (T', L.length) := by
  simp [World.shape?, hb]

theorem freeze_eq {b n : Nat} {L : List Value} {T' : TypeId} (hb : w.heap[b]? = some (.cells L.toArray T' (0, 0))) :
    w.freeze ⟨b, n, none⟩ 1 = setBlk w b (.cells L.toArray T' (n, n + 1)) := by
  have hlt : b < w.heap.size := by
    rcases Nat.lt_or_ge b w.heap.size with h1 | h1
    · exact h1
    · simp [Array.getElem?_eq_none h1] at hb
  unfold World.freeze setBlk
  simp only [Nat.one_ne_zero, if_false]
  congr 1
  apply Array.ext_getElem?
  intro i
  rw [Array.getElem?_modify, Array.getElem?_setIfInBounds]
  by_cases e : b = i
  · subst e
    rw [Array.getElem?_eq_getElem hlt] at hb
    simp only [Option.some.injEq] at hb
    simp [hb, hlt]
  · simp [e]

theorem set_new (w : World) (o o' : Obj) : setBlk (newBlk w o) w.heap.size o' = newBlk w o' := by
  unfold setBlk newBlk
  congr 1
  apply Array.ext_getElem?
  intro i
  simp only [Array.getElem?_setIfInBounds, Array.getElem?_push, Array.size_push]
  by_cases e : w.heap.size = i
  · subst e; simp
  · rw [if_neg e, if_neg (by omega), if_neg (by omega)]

theorem run_mark {b : Nat} {o : Nat} {L : List Value} {T' : TypeId} (hb : w.heap[b]? = some (.cells L.toArray T' (0, 0))) :
    (markStringish ⟨b, o, none⟩).run P w = .ok () (setBlk w b (.cells L.toArray T' (L.length, L.length + 1))) := by
  unfold markStringish
  rw [run_bind]
  simp only [shape, Sem.run, shape_of hb, freeze]
  show Result.ok () (w.freeze _ 1) = _
  rw [freeze_eq hb]

theorem does_cvLit {s t e : TypeId} {f : TypeId} {x : Operand} (hs : P.underlying s = some (.slice f)) (ht : P.underlying t = some (.slice e)) (he : P.underlying e = some (.int .u8)) (hst : s = t)
    (h : EOp.wp P ρ w Q (.cvLit x)) : Does P ρ (.convert s t x) T w Q := by
  obtain ⟨b, n, c, L, T', fz, hx, hb, hz, q⟩ := h
  subst hz
  refine does_v (s := convert s t (ρ x)) ?_ (fun _ _ _ _ => rfl) q
  unfold convert
  rw [run_bind_ok (run_underlying hs), run_bind_ok (run_underlying ht), hx]
  simp only
  rw [run_bind_ok (run_underlying he)]
  have : (s == t) = true := by simp [hst]
  simp only [this]
  show Sem.run P (do markStringish ⟨b, 0, none⟩; pure _) w = _
  rw [run_bind_ok (run_mark hb)]; rfl

theorem does_cvSB {s t e : TypeId} {x : Operand} (hs : P.underlying s = some .string) (ht : P.underlying t = some (.slice e)) (he : P.underlying e = some (.int .u8))
    (h : EOp.wp P ρ w Q (.cvSB e x)) : Does P ρ (.convert s t x) T w Q := by
  obtain ⟨str, hx, q⟩ := h
  let cq := Question.appendCap str.size 0 e
  let c := cq.cut (w.tape w.drawn cq)
  have hc : str.size ≤ c := Nat.le_add_right _ _
  refine does_v (s := convert s t (ρ x)) ?_ (fun _ _ _ _ => rfl) (q c hc)
  unfold convert
  rw [run_bind_ok (run_underlying hs), run_bind_ok (run_underlying ht), hx]
  simp only
  rw [run_bind_ok (run_underlying he)]
  simp only [Conv.stringToBytes]
  rw [run_bind_ok (run_choose cq rfl), run_bind_ok (run_newRow _ _)]
  let L : List Value := (str.data.toList.map fun b => Value.int .u8 b.toNat) ++ List.replicate (c - str.size) (.int .u8 0)
  have hL : ((str.data.map fun b => Value.int .u8 (b.toNat : Int)) ++ Array.replicate (c - str.size) (Value.int .u8 0)) = L.toArray := by
    apply Array.ext'; simp [L]
  have hlen : L.length = c := by
    have : str.data.toList.length = str.size := by simp
    simp only [L, List.length_append, List.length_map, List.length_replicate, this]; omega
  show Sem.run P (do markStringish _; pure _) _ = _
  have hnew : (newBlk { w with drawn := w.drawn + 1 } (.cells L.toArray e)).heap[w.heap.size]? = some (.cells L.toArray e (0, 0)) := by
    rw [newBlk_get]; simp
  show Sem.run P (do markStringish ⟨w.heap.size, 0, none⟩; pure _) (newBlk { w with drawn := w.drawn + 1 } (.cells _ e)) = _
  rw [hL, run_bind_ok (run_mark hnew)]
  rw [hlen]
  simp only [run_pure']
  congr 1
  exact set_new { w with drawn := w.drawn + 1 } _ _

theorem does_cvBS {s t e : TypeId} {x : Operand} (hs : P.underlying s = some (.slice e)) (ht : P.underlying t = some .string) (he : P.underlying e = some (.int .u8))
    (h : EOp.wp P ρ w Q (.cvBS x)) : Does P ρ (.convert s t x) T w Q := by
  obtain ⟨a, c, bs, hx, hsh, q⟩ := h
  refine does_v (s := convert s t (ρ x)) ?_ (fun _ _ _ _ => rfl) q
  unfold convert
  rw [run_bind_ok (run_underlying hs), run_bind_ok (run_underlying ht)]
  rw [hx] at hsh ⊢
  simp only
  rw [run_bind_ok (run_underlying he)]
  cases a with
  | none =>
    have : bs = [] := by simpa [shows] using hsh
    subst this; rfl
  | some a =>
    have hload : (loadCells a bs.length).run P w = .ok (bs.map fun b => Value.int .u8 (b.toNat : Int)).toArray w := by
      rcases hsh with ⟨h0, h1⟩ | ⟨hsp, L, T', fz, hb, hl, hxs⟩
      · have : bs = [] := by simpa using h1
        subst this; rfl
      · have ha := find_spot a hsp
        simp only [Nat.mul_one] at hl hxs
        rw [ha, run_loadCells hb hl, ← hxs]
    simp only [Conv.bytesToString]
    rw [run_bind_ok hload]
    have key : ∀ (bs : List UInt8) (acc : ByteArray), Sem.run P (do
        let mut s := acc
        for c in (bs.map fun b => Value.int .u8 (b.toNat : Int)).toArray do
          let .int .u8 n := c | stuck "bytesToString: byte expected"
          s := s.push (UInt8.ofNat n.toNat)
        pure (Value.string s)) w = .ok (.string ⟨acc.data ++ bs.toArray⟩) w := by
      intro bs
      induction bs with
      | nil => intro acc; simp
      | cons b bs ih =>
        intro acc
        have := ih (acc.push b)
        simp only [List.map_cons, List.forIn_toArray, List.forIn_cons, run_bind, run_pure', Int.toNat_natCast, UInt8.ofNat_toNat] at this ⊢
        rw [this]; simp [ByteArray.push]
    have := key bs ByteArray.empty
    simpa using this
end
end Eng
end Go.Proofs.YtnfomoeicgdkkaaGreatDoor

/- The resolved operations are sound: the rest, and the joint law. -/
set_option linter.unusedSimpArgs false
set_option linter.unusedVariables false
namespace Go.Proofs.YtnfomoeicgdkkaaGreatDoor
namespace Eng

section
variable {P : Program} {w : World} {ρ : Operand → Value} {T : TypeId} {Q : Next → World → Prop}

theorem does_fldn {t : TypeId} {x : Operand} {f : Nat} {fs : Array Field} {fd : Field} {i : TypeInfo} (ht : P.underlying t = some (.struct fs)) (hf : fs[f]? = some fd)
    (ha : aggOf P fd.type = some true) (hi : P.info? fd.type = some i) (h : EOp.wp P ρ w Q (.fld x fd.offset (some i.size))) : Does P ρ (.field t x f) T w Q := by
  obtain ⟨cs, hx, q⟩ := h
  refine does_v (s := Instr.field t (ρ x) f) ?_ (fun _ _ _ _ => rfl) q
  unfold Instr.field
  rw [run_bind_ok (run_underlying ht), hx]
  simp only [hf, asAgg]
  rw [run_bind]
  exact run_part ha hi

theorem does_fld1 {t : TypeId} {x : Operand} {f : Nat} {fs : Array Field} {fd : Field} (ht : P.underlying t = some (.struct fs)) (hf : fs[f]? = some fd)
    (ha : aggOf P fd.type = some false) (h : EOp.wp P ρ w Q (.fld x fd.offset none)) : Does P ρ (.field t x f) T w Q := by
  obtain ⟨cs, hx, v, hv, q⟩ := h
  refine does_v (s := Instr.field t (ρ x) f) ?_ (fun _ _ _ _ => rfl) q
  unfold Instr.field
  rw [run_bind_ok (run_underlying ht), hx]
  simp only [hf, asAgg]
  rw [run_bind]
  exact run_part1 ha hv

theorem does_ext {x : Operand} {i : Nat} (h : EOp.wp P ρ w Q (.ext x i)) : Does P ρ (.extract x i) T w Q := by
  obtain ⟨vs, v, hx, hv, q⟩ := h
  refine does_v (s := Instr.extract (ρ x) i) ?_ (fun _ _ _ _ => rfl) q
  unfold Instr.extract
  rw [hx]; simp [hv]

theorem does_ixS {t e : TypeId} {x i : Operand} {j : TypeInfo} (ht : P.underlying t = some (.slice e)) (hj : P.info? e = some j) (h : EOp.wp P ρ w Q (.ixS x i j.size)) :
    Does P ρ (.indexAddr t x i) T w Q := by
  obtain ⟨a, n, c, k, m, hx, hi, h0, h1, q⟩ := h
  refine does_v (s := Instr.indexAt t (ρ x) (ρ i)) ?_ (fun _ _ _ _ => rfl) q
  unfold Instr.indexAt
  rw [hx, hi]
  simp only [asIntOf]
  rw [run_bind]; simp only [run_pure']
  rw [run_bind_ok (run_underlying ht)]
  simp only
  rw [run_bind]; simp only [run_pure']
  rw [run_bind_ok (run_underlying ht)]
  simp only [h0, h1, and_self, if_true]
  rw [run_bind_ok (run_sizeOf hj)]; rfl

theorem does_ixA {t e : TypeId} {len : Nat} {x i : Operand} {j : TypeInfo} (ht : P.underlying t = some (.array len e)) (hj : P.info? e = some j) (h : EOp.wp P ρ w Q (.ixA x i len j.size)) :
    Does P ρ (.indexAddr t x i) T w Q := by
  obtain ⟨a, k, m, hx, hi, h0, h1, q⟩ := h
  refine does_v (s := Instr.indexAt t (ρ x) (ρ i)) ?_ (fun _ _ _ _ => rfl) q
  unfold Instr.indexAt
  rw [hx, hi]
  simp only [asIntOf]
  rw [run_bind]; simp only [run_pure']
  rw [run_bind_ok (run_underlying ht)]
  simp only
  rw [run_bind_ok (run_sure a), run_bind]; simp only [run_pure']
  rw [run_bind_ok (run_underlying ht)]
  simp only [h0, h1, and_self, if_true]
  rw [run_bind_ok (run_sizeOf hj)]; rfl

theorem does_idS {t : TypeId} {x i : Operand} (ht : P.underlying t = some .string) (h : EOp.wp P ρ w Q (.idS x i)) : Does P ρ (.index t x i) T w Q := by
  obtain ⟨b, k, m, c, hx, hi, h0, hc, q⟩ := h
  refine does_v (s := Instr.index t (ρ x) (ρ i)) ?_ (fun _ _ _ _ => rfl) q
  unfold Instr.index
  rw [hx, hi]
  simp only [asIntOf]
  rw [run_bind]; simp only [run_pure']
  rw [run_bind_ok (run_underlying ht)]
  simp [h0, hc]

theorem does_idAn {t e : TypeId} {len : Nat} {x i : Operand} {j : TypeInfo} (ht : P.underlying t = some (.array len e)) (ha : aggOf P e = some true) (hj : P.info? e = some j)
    (h : EOp.wp P ρ w Q (.idA x i len j.size (some j.size))) : Does P ρ (.index t x i) T w Q := by
  obtain ⟨cs, k, m, hx, hi, h0, h1, q⟩ := h
  refine does_v (s := Instr.index t (ρ x) (ρ i)) ?_ (fun _ _ _ _ => rfl) q
  unfold Instr.index
  rw [hx, hi]
  simp only [asIntOf]
  rw [run_bind]; simp only [run_pure']
  rw [run_bind_ok (run_underlying ht)]
  simp only [h0, h1, and_self, if_true]
  rw [run_bind_ok (run_sizeOf hj)]
  exact run_part ha hj

theorem does_idA1 {t e : TypeId} {len : Nat} {x i : Operand} {j : TypeInfo} (ht : P.underlying t = some (.array len e)) (ha : aggOf P e = some false) (hj : P.info? e = some j)
    (h : EOp.wp P ρ w Q (.idA x i len j.size none)) : Does P ρ (.index t x i) T w Q := by
  obtain ⟨cs, k, m, hx, hi, h0, h1, v, hv, q⟩ := h
  refine does_v (s := Instr.index t (ρ x) (ρ i)) ?_ (fun _ _ _ _ => rfl) q
  unfold Instr.index
  rw [hx, hi]
  simp only [asIntOf]
  rw [run_bind]; simp only [run_pure']
  rw [run_bind_ok (run_underlying ht)]
  simp only [h0, h1, and_self, if_true]
  rw [run_bind_ok (run_sizeOf hj)]
  exact run_part1 ha hv

theorem does_slS {t e : TypeId} {x : Operand} {lo hi mx : Option Operand} {j : TypeInfo} (ht : P.underlying t = some (.slice e)) (hj : P.info? e = some j)
    (h : EOp.wp P ρ w Q (.slS x j.size lo hi mx)) : Does P ρ (.slice t x lo hi mx) T w Q := by
  obtain ⟨a, len, cap, l, h', m, hx, hm, hh, hl, hmx, h1, h2, h3, q⟩ := h
  refine does_v (s := Instr.sliceAt t (ρ x) (lo.map ρ) (hi.map ρ) (mx.map ρ)) ?_ (fun _ _ _ _ => rfl) q
  unfold Instr.sliceAt
  rw [run_bind_ok (run_underlying ht)]
  simp only
  unfold Instr.slice
  rw [run_bind_ok (run_underlying ht), hx]
  simp only
  rw [run_bind_ok (run_sliceBounds hm hh hl hmx h1 h2 h3)]
  simp only
  rw [run_bind_ok (run_sizeOf hj)]; rfl

theorem does_slA {t e : TypeId} {n : Nat} {x : Operand} {lo hi mx : Option Operand} {j : TypeInfo} (ht : P.underlying t = some (.array n e)) (hj : P.info? e = some j)
    (h : EOp.wp P ρ w Q (.slA x n j.size lo hi mx)) : Does P ρ (.slice t x lo hi mx) T w Q := by
  obtain ⟨a, l, h', m, hx, hm, hh, hl, hmx, h1, h2, h3, q⟩ := h
  refine does_v (s := Instr.sliceAt t (ρ x) (lo.map ρ) (hi.map ρ) (mx.map ρ)) ?_ (fun _ _ _ _ => rfl) q
  unfold Instr.sliceAt
  rw [run_bind_ok (run_underlying ht), hx]
  simp only
  rw [run_bind_ok (run_sure a), run_bind_ok (run_sliceBounds hm hh hl hmx h1 h2 h3)]
  simp only
  rw [run_bind_ok (run_sizeOf hj)]; rfl

theorem does_slT {t : TypeId} {x : Operand} {lo hi : Option Operand} (ht : P.underlying t = some .string)
    (h : EOp.wp P ρ w Q (.slT x lo hi)) : Does P ρ (.slice t x lo hi none) T w Q := by
  obtain ⟨b, l, h', hx, hh, hl, h1, h2, q⟩ := h
  refine does_v (s := Instr.sliceAt t (ρ x) (lo.map ρ) (hi.map ρ) none) ?_ (fun _ _ _ _ => rfl) q
  unfold Instr.sliceAt
  rw [run_bind_ok (run_underlying ht)]
  simp only
  unfold Instr.slice
  rw [run_bind_ok (run_underlying ht), hx]
  simp only [Option.isSome_none, Bool.false_eq_true, if_false]
  have := run_sliceBounds (P := P) (w := w) (isS := false) (mx := none) (cap := b.size) (m := b.size) (len := b.size) rfl hh hl (by simp) h1 h2 (Nat.le_refl _)
  simp only [Option.map_none] at this
  rw [run_bind_ok this]; rfl

theorem does_mks {t e : TypeId} {l c : Operand} {j : TypeInfo} {z : Value} (ht : P.underlying t = some (.slice e)) (hj : P.info? e = some j) (hz : j.zero = some z)
    (hl : (vcells z).length = j.size) (h0 : j.size ≠ 0) (hb : j.bytes ≠ 0) (h : EOp.wp P ρ w Q (.mks e (vcells z) j.bytes l c)) : Does P ρ (.makeSlice t l c) T w Q := by
  obtain ⟨k, k', n, m, hL, hC, hn, hm, hr, q⟩ := h
  refine does_v (s := Instr.makeSlice t (ρ l) (ρ c)) ?_ (fun _ _ _ _ => rfl) q
  unfold Instr.makeSlice
  rw [run_bind_ok (run_underlying ht), hL, hC]
  simp only [asInt, asIntOf]
  rw [run_bind_ok (w' := w) (a := n) (by rw [run_bind]; rfl), run_bind_ok (w' := w) (a := m) (by rw [run_bind]; rfl), run_bind_ok (run_info hj)]
  have hbig : m ≤ 2 ^ 48 := by
    have h1 : (1 : Int) ≤ j.bytes := by omega
    have h2 : 1 * m ≤ (j.bytes : Int) * m := Int.mul_le_mul_of_nonneg_right h1 (by omega)
    omega
  have wn : IntKind.i64.wrap n = n := by unfold IntKind.wrap; simp [IntKind.bits, IntKind.signed]; omega
  have wm : IntKind.i64.wrap m = m := by unfold IntKind.wrap; simp [IntKind.bits, IntKind.signed]; omega
  simp only [wn, wm]
  have c1 : (decide (m < 0) || decide ((j.bytes : Int) * m > 2 ^ 48)) = false := by simp; omega
  have c2 : decide (n < 0) = false := by simp; omega
  have c3 : decide (n > m) = false := by simp; omega
  simp only [c1, c2, c3, Bool.or_self, Bool.false_eq_true, if_false]
  rw [run_bind_ok (run_askRoom _), run_bind_ok (run_sizeOf hj)]
  by_cases hm0 : m.toNat * j.size = 0
  · have : m.toNat = 0 := by rcases Nat.mul_eq_zero.1 hm0 with e | e; exact e; exact absurd e h0
    simp only [hm0, if_true]
    rw [run_bind]; simp only [run_pure']
    rw [run_bind_ok (run_newRow _ _)]
    have hr0 : ∀ f : Nat → Value, Array.map f (Array.range 0) = #[] := fun f => Array.ext' (by simp)
    simp only [run_pure', this, zerosL, List.replicate_zero, List.flatten_nil, hr0]
  · simp only [hm0, if_false]
    rw [run_bind_ok (run_zero hj hz), run_bind]
    simp only [run_pure']
    rw [run_bind_ok (run_newRow _ _), vcells_eq]
    simp only [run_pure']
    congr 3
    rw [← hl]
    exact range_zero _ (by omega) _

theorem does_call {c : Call} {g : FuncId} {fn : Func} (hc : c.callee = .value (.func g)) (hf : P.funcs[g]? = some fn) (hb : fn.body.isSome = true) (hn : (fn.name == "runtime.NumGoroutine") = false)
    (hρ : ρ (.func g) = .func (.func g) #[] #[]) (h : EOp.wp P ρ w Q (.call g c.args)) : Does P ρ (.call c) T w Q := by
  refine ⟨_, w, fun d pos af g' => ?_, h⟩
  show Sem.run P (do let d ← resolve ρ c T; invoke d.target d.args) w = _
  have hr : (resolve ρ c T).run P w = .ok { target := .fn (.func g) #[], args := #[] ++ c.args.map ρ } w := by
    unfold resolve; simp only [hc, hρ, Deferred.ofValue]; rfl
  rw [run_bind_ok hr]
  simp only [invoke, callFunc]
  rw [run_program]
  simp only [hf, hn, Bool.false_eq_true, if_false]
  cases hbo : fn.body with
  | none => rw [hbo] at hb; cases hb
  | some b => simp

theorem does_callv {c : Call} {f : Operand} (hc : c.callee = .value f) (h : EOp.wp P ρ w Q (.callv f c.args)) : Does P ρ (.call c) T w Q := by
  obtain ⟨g, cap, hf, ⟨fn, hfn, hb, hn⟩, q⟩ := h
  refine ⟨_, w, fun d pos af g' => ?_, q⟩
  show Sem.run P (do let d ← resolve ρ c T; invoke d.target d.args) w = _
  have hr : (resolve ρ c T).run P w = .ok { target := .fn (.func g) cap, args := #[] ++ c.args.map ρ } w := by
    unfold resolve; simp only [hc, hf, Deferred.ofValue]; rfl
  rw [run_bind_ok hr]
  simp only [invoke, callFunc]
  rw [run_program]
  simp only [hfn, hn, Bool.false_eq_true, if_false]
  cases hbo : fn.body with
  | none => rw [hbo] at hb; cases hb
  | some b => simp

theorem does_builtin {c : Call} {b : Builtin} {s : Sem Value} {v : Value} {w' : World} (hc : c.callee = .builtin b)
    (hb : ∀ cs, builtin b c.argTypes T cs (c.args.map ρ) = (do pure (Next.value (← s)))) (h : s.run P w = .ok v w') (q : Q (.value v) w') : Does P ρ (.call c) T w Q := by
  refine ⟨_, w', fun d pos af g' => ?_, q⟩
  show Sem.run P (do let d ← resolve ρ c T; invoke d.target d.args) w = _
  have hr : (resolve ρ c T).run P w = .ok { target := .builtin b c.argTypes T (c.args.map fun | .const _ => true | _ => false), args := c.args.map ρ } w := by
    unfold resolve; simp only [hc]; rfl
  rw [run_bind_ok hr]
  simp only [invoke]
  rw [hb]; exact run_v h

theorem does_len {c : Call} {t e : TypeId} {x : Operand} (hc : c.callee = .builtin .len) (ht : c.argTypes[0]? = some t) (hx : c.args[0]? = some x)
    (hd : P.underlying t = some (.slice e)) (h : EOp.wp P ρ w Q (.len x)) : Does P ρ (.call c) T w Q := by
  obtain ⟨a, n, cp, hs, q⟩ := h
  refine does_builtin hc (s := Builtin.len_ c.argTypes T (c.args.map ρ)) (fun _ => rfl) ?_ q
  unfold Builtin.len_
  have hx' : (c.args.map ρ)[0]? = some (ρ x) := by simp [hx]
  simp only [ht, hx']
  rw [run_bind_ok (run_underlying hd), hs]; rfl

theorem does_lenT {c : Call} {t : TypeId} {x : Operand} (hc : c.callee = .builtin .len) (ht : c.argTypes[0]? = some t) (hx : c.args[0]? = some x)
    (hd : P.underlying t = some .string) (h : EOp.wp P ρ w Q (.lenT x)) : Does P ρ (.call c) T w Q := by
  obtain ⟨s, hs, q⟩ := h
  refine does_builtin hc (s := Builtin.len_ c.argTypes T (c.args.map ρ)) (fun _ => rfl) ?_ q
  unfold Builtin.len_
  have hx' : (c.args.map ρ)[0]? = some (ρ x) := by simp [hx]
  simp only [ht, hx']
  rw [run_bind_ok (run_underlying hd), hs]; rfl

theorem does_lenm {c : Call} {t k e : TypeId} {x : Operand} (hc : c.callee = .builtin .len) (ht : c.argTypes[0]? = some t) (hx : c.args[0]? = some x)
    (hd : P.underlying t = some (.map k e)) (h : EOp.wp P ρ w Q (.lenm x)) : Does P ρ (.call c) T w Q := by
  have hx' : (c.args.map ρ)[0]? = some (ρ x) := by simp [hx]
  rcases h with ⟨hs, q⟩ | ⟨r, es, tm, hs, hr, q⟩
  · refine does_builtin hc (s := Builtin.len_ c.argTypes T (c.args.map ρ)) (fun _ => rfl) ?_ q
    unfold Builtin.len_
    simp only [ht, hx']
    rw [run_bind_ok (run_underlying hd), hs]; rfl
  · refine does_builtin hc (s := Builtin.len_ c.argTypes T (c.args.map ρ)) (fun _ => rfl) ?_ q
    unfold Builtin.len_
    simp only [ht, hx']
    rw [run_bind_ok (run_underlying hd), hs]
    have : (getObj r).run P w = .ok (.map es tm) w := by simp [getObj, Sem.run, hr]
    simp only
    rw [run_bind_ok this]; rfl

theorem does_mx2 {c : Call} {x y : Operand} (hc : c.callee = .builtin .max) (ha : c.args = ⟨[x, y]⟩) (h : EOp.wp P ρ w Q (.mx2 x y)) : Does P ρ (.call c) T w Q := by
  obtain ⟨k, k', a, b, hx, hy, q⟩ := h
  refine does_builtin hc (s := Builtin.max_ c.argTypes T (c.args.map ρ)) (fun _ => rfl) ?_ q
  rw [ha]
  have : (Array.map ρ ⟨[x, y]⟩).toList = [ρ x, ρ y] := by simp
  unfold Builtin.max_
  simp only [this, List.foldlM_cons, List.foldlM_nil, hx, hy, Builtin.max2, run_bind, run_pure']

theorem does_mn2 {c : Call} {x y : Operand} (hc : c.callee = .builtin .min) (ha : c.args = ⟨[x, y]⟩) (h : EOp.wp P ρ w Q (.mn2 x y)) : Does P ρ (.call c) T w Q := by
  obtain ⟨k, k', a, b, hx, hy, q⟩ := h
  refine does_builtin hc (s := Builtin.min_ c.argTypes T (c.args.map ρ)) (fun _ => rfl) ?_ q
  rw [ha]
  have : (Array.map ρ ⟨[x, y]⟩).toList = [ρ x, ρ y] := by simp
  unfold Builtin.min_
  simp only [this, List.foldlM_cons, List.foldlM_nil, hx, hy, Builtin.min2, run_bind, run_pure']

theorem does_cpy {c : Call} {t e : TypeId} {x y : Operand} {j : TypeInfo} (hc : c.callee = .builtin .copy) (ht : c.argTypes[0]? = some t) (hx : c.args[0]? = some x) (hy : c.args[1]? = some y)
    (hd : P.underlying t = some (.slice e)) (hj : P.info? e = some j) (h : EOp.wp P ρ w Q (.cpy j.size x y)) : Does P ρ (.call c) T w Q := by
  obtain ⟨base, dLen, cap, n, xs, hX, hn, hs, q⟩ := h
  have hx' : (c.args.map ρ)[0]? = some (ρ x) := by simp [hx]
  have hy' : (c.args.map ρ)[1]? = some (ρ y) := by simp [hy]
  have core : ∀ w', (match base with | some a => storeCells a xs.toArray.toList | none => pure () : Sem Unit).run P w = .ok () w' →
      (Builtin.copy_ c.argTypes T (c.args.map ρ)).run P w = .ok (.int .i64 (Nat.min n dLen : Nat)) w' := by
    intro w' hw
    unfold Builtin.copy_
    simp only [ht, hx', hy']
    rw [run_bind_ok (run_underlying hd), hX]
    simp only
    rw [run_bind_ok (run_lenOf hn), run_bind_ok (run_sizeOf hj), run_bind_ok (run_firstCells hs)]
    cases base with
    | none => simp at hw; subst hw; rfl
    | some a => simp only at hw ⊢; rw [run_bind_ok hw]; rfl
  cases base with
  | none => exact does_builtin hc (s := Builtin.copy_ c.argTypes T (c.args.map ρ)) (fun _ => rfl) (core w rfl) q
  | some a =>
    obtain ⟨hsp, q⟩ := q
    by_cases e0 : xs = []
    · rw [if_pos e0] at q
      subst e0
      exact does_builtin hc (s := Builtin.copy_ c.argTypes T (c.args.map ρ)) (fun _ => rfl) (core w rfl) q
    · rw [if_neg e0] at q
      obtain ⟨L, T', fz, hb, h1, hl, hf, q⟩ := q
      exact does_builtin hc (s := Builtin.copy_ c.argTypes T (c.args.map ρ)) (fun _ => rfl) (core _ (run_cells_store hsp hb h1 hl hf)) q

theorem does_app {c : Call} {t u e : TypeId} {x y : Operand} {j : TypeInfo} {z : Value} (hc : c.callee = .builtin .append) (ht : c.argTypes[0]? = some t) (hu : c.argTypes[1]? = some u)
    (hx : c.args[0]? = some x) (hy : c.args[1]? = some y) (hd : P.underlying t = some (.slice e)) (hdu : P.underlying u = some .string ∨ ∃ f, P.underlying u = some (.slice f)) (hj : P.info? e = some j)
    (hz : j.zero = some z) (hl : (vcells z).length = j.size) (h0 : j.size ≠ 0) (hb0 : j.bytes ≠ 0)
    (h : EOp.wp P ρ w Q (.app e (vcells z) j.bytes x y)) : Does P ρ (.call c) T w Q := by
  obtain ⟨base, sLen, sCap, n, xs, hX, hn, hs, q⟩ := h
  have hx' : (c.args.map ρ)[0]? = some (ρ x) := by simp [hx]
  have hy' : (c.args.map ρ)[1]? = some (ρ y) := by simp [hy]
  rw [hl] at hs q
  have fin : ∀ {v : Value} {w' : World}, (Builtin.append_ c.argTypes T (c.args.map ρ)).run P w = .ok v w' → Q (.value v) w' → Does P ρ (.call c) T w Q :=
    fun hr q => does_builtin hc (s := Builtin.append_ c.argTypes T (c.args.map ρ)) (fun _ => rfl) hr q
  by_cases hroom : sLen + n ≤ sCap
  · rw [if_pos hroom] at q
    have core : ∀ w', (match base with | some a => storeCells (a.add (sLen * j.size)) xs.toArray.toList | none => pure () : Sem Unit).run P w = .ok () w' →
        (Builtin.append_ c.argTypes T (c.args.map ρ)).run P w = .ok (.slice base (sLen + n) sCap) w' := by
      intro w' hw
      unfold Builtin.append_
      simp only [ht, hx', hy', hu]
      rw [run_bind_ok (run_underlying hd), hX]
      simp only
      rw [run_bind_ok (run_sizeOf hj)]
      rcases hdu with hdu | ⟨g, hdu⟩
      all_goals
        rw [run_bind_ok (run_underlying hdu), run_bind]
        simp only [run_pure', Bool.false_eq_true, if_false, Bool.not_false, if_true]
        rw [run_bind_ok (run_lenOf hn)]
        simp only [if_pos hroom]
        rw [run_bind_ok (run_firstCells hs)]
        cases base with
        | none => simp at hw; subst hw; rfl
        | some a => simp only at hw ⊢; rw [run_bind_ok hw]; rfl
    cases base with
    | none => exact fin (core w rfl) q
    | some a =>
      obtain ⟨hsp, q⟩ := q
      by_cases e0 : xs = []
      · rw [if_pos e0] at q
        subst e0
        exact fin (core w rfl) q
      · rw [if_neg e0] at q
        obtain ⟨L, T', fz, hb, h1, hlen, hf, q⟩ := q
        refine fin (core _ ?_) q
        have ha := find_spot a hsp
        simp only
        rw [show a.add (sLen * j.size) = ⟨a.block, a.off + sLen * j.size, none⟩ from by rw [ha, add_mk]]
        exact run_cells_store (a := ⟨a.block, a.off + sLen * j.size, none⟩) rfl hb h1 hlen hf
  · rw [if_neg hroom] at q
    obtain ⟨old, hold, hbig, q⟩ := q
    let cq := Question.appendCap (sLen + n) sCap e
    let cap := cq.cut (w.tape w.drawn cq)
    have hcap : sLen + n ≤ cap := Nat.le_add_right _ _
    refine fin ?_ (q cap hcap)
    have hnc : ¬ (Builtin.nextslicecap (sLen + n) sCap * j.bytes > 2 ^ 48) := by
      have h1 := nextcap_le (sLen + n) sCap (by omega)
      have h2 := Nat.mul_le_mul_right j.bytes h1
      omega
    have shows_drew : ∀ {s m : Nat} {v : Value} {ys : List Value}, shows w s m v ys → shows { w with drawn := w.drawn + 1 } s m v ys := fun h => h
    unfold Builtin.append_
    simp only [ht, hx', hy', hu]
    rw [run_bind_ok (run_underlying hd), hX]
    simp only
    rw [run_bind_ok (run_sizeOf hj)]
    rcases hdu with hdu | ⟨g, hdu⟩
    all_goals
      rw [run_bind_ok (run_underlying hdu), run_bind]
      simp only [run_pure', Bool.false_eq_true, if_false, Bool.not_false, if_true, false_or]
      rw [run_bind_ok (run_lenOf hn)]
      simp only [if_neg hroom]
      rw [run_bind_ok (run_info hj)]
      simp only [hb0, and_false, if_false]
      rw [run_bind_ok (run_info hj)]
      simp only [if_neg hnc]
      rw [run_bind_ok (run_choose cq rfl), run_bind_ok (run_info hj), run_bind_ok (run_askRoom _)]
      rw [← hX, run_bind_ok (run_firstCells (shows_drew hold)), run_bind_ok (run_firstCells (shows_drew hs)), run_bind_ok (run_zero hj hz), run_bind_ok (run_newRow _ _)]
      simp only [run_pure']
      congr 2
      rw [vcells_eq, zeroCells_eq _ (by omega)]
      simp [cap, cq]
end
end Eng
end Go.Proofs.YtnfomoeicgdkkaaGreatDoor

/- Whatever an operation is resolved to, the model does. -/
set_option linter.unusedSimpArgs false
set_option linter.unusedVariables false
namespace Go.Proofs.YtnfomoeicgdkkaaGreatDoor
namespace Eng

section
variable {P : Program} {w : World} {ρ : Operand → Value} {T : TypeId} {Q : Next → World → Prop}

theorem partsAt_sound {place : Nat → Option (Nat × Nat)} {parts : Array (Nat × Operand)} {ps : List (Nat × Nat × Operand)} (h : partsAt place parts = some ps) {z : List Value} {out : List Value}
    (hb : buildL z (ps.map fun p => (p.1, p.2.1, ρ p.2.2)) = some out) :
    Instr.fill place z.toArray (parts.map fun (i, x) => (i, ρ x)).toList = some out.toArray := by
  have := fill_eq place ρ parts.toList ps z out h hb
  simpa using this

theorem does_buildS {t : TypeId} {parts : Array (Nat × Operand)} {i : TypeInfo} {fs : Array Field} {z : Value} {ps : List (Nat × Nat × Operand)} (hi : P.info? t = some i) (ht : P.underlying t = some (.struct fs))
    (hz : i.zero = some z) (hall : (fs.all fun f => (P.info? f.type).isSome) = true)
    (hp : partsAt (fun k => (fs[k]?).bind fun f => (P.info? f.type).map fun j => (f.offset, j.size)) parts = some ps)
    (h : EOp.wp P ρ w Q (.build (vcells z) ps)) : Does P ρ (.build t parts) T w Q := by
  obtain ⟨cs, hb, q⟩ := h
  refine does_v (s := Instr.build t (parts.map fun (i, x) => (i, ρ x))) ?_ (fun _ _ _ _ => rfl) q
  unfold Instr.build
  rw [run_bind_ok (run_zero hi hz)]
  simp only
  rw [run_bind_ok (run_underlying ht)]
  simp only
  have hplaces : (fs.mapM fun f => (do pure (f.offset, ← sizeOf f.type) : Sem (Nat × Nat))).run P w = .ok (fs.map fun f => (f.offset, P.cellsOf f.type)) w := by
    have key : ∀ (l : List Field) (acc : Array (Nat × Nat)), (∀ f ∈ l, (P.info? f.type).isSome = true) →
        (l.foldlM (fun (bs : Array (Nat × Nat)) f => bs.push <$> (do pure (f.offset, ← sizeOf f.type) : Sem (Nat × Nat))) acc : Sem _).run P w = .ok (acc ++ (l.map fun f => (f.offset, P.cellsOf f.type)).toArray) w := by
      intro l
      induction l with
      | nil => intro acc _; simp
      | cons f l ih =>
        intro acc hl
        have hf := hl f (.head _)
        cases hfi : P.info? f.type with
        | none => rw [hfi] at hf; cases hf
        | some j =>
          rw [List.foldlM_cons, run_bind_ok (a := acc.push (f.offset, j.size)) (w' := w)]
          · rw [ih _ (fun g hg => hl g (.tail _ hg))]
            simp [Program.cellsOf, hfi]
          · have : (do pure (f.offset, ← sizeOf f.type) : Sem (Nat × Nat)).run P w = .ok (f.offset, j.size) w := by
              rw [run_bind_ok (run_sizeOf hfi)]; rfl
            show Sem.run P (Sem.bind _ _) w = _
            exact (run_bind_ok (f := fun a => pure (acc.push a)) this).trans rfl
    rw [Array.mapM_eq_foldlM, ← Array.foldlM_toList, key _ _ (fun f hf => by
      have := Array.all_eq_true_iff_forall_mem.1 hall f (by simpa using hf)
      exact this)]
    rw [Array.empty_append, ← Array.toList_map, Array.toArray_toList]
  rw [run_bind_ok hplaces, vcells_eq]
  have hfill := partsAt_sound hp hb
  have hpl : (fun (k : Nat) => (fs.map fun (f : Field) => (f.offset, P.cellsOf f.type))[k]?) = fun (k : Nat) => (fs[k]?).bind fun (f : Field) => (P.info? f.type).map fun j => (f.offset, j.size) := by
    funext k
    simp only [Array.getElem?_map]
    cases hk : fs[k]? with
    | none => rfl
    | some f =>
      have hm : f ∈ fs := Array.mem_of_getElem? hk
      have := (Array.all_eq_true_iff_forall_mem.1 hall) f hm
      cases hfi : P.info? f.type with
      | none => rw [hfi] at this; cases this
      | some j => simp [Program.cellsOf, hfi]
  rw [hpl, hfill]
  rfl

theorem does_buildA {t e : TypeId} {len : Nat} {parts : Array (Nat × Operand)} {i j : TypeInfo} {z : Value} {ps : List (Nat × Nat × Operand)} (hi : P.info? t = some i) (ht : P.underlying t = some (.array len e))
    (hz : i.zero = some z) (hj : P.info? e = some j) (hp : partsAt (fun k => some (k * j.size, j.size)) parts = some ps)
    (h : EOp.wp P ρ w Q (.build (vcells z) ps)) : Does P ρ (.build t parts) T w Q := by
  obtain ⟨cs, hb, q⟩ := h
  refine does_v (s := Instr.build t (parts.map fun (i, x) => (i, ρ x))) ?_ (fun _ _ _ _ => rfl) q
  unfold Instr.build
  rw [run_bind_ok (run_zero hi hz)]
  simp only
  rw [run_bind_ok (run_underlying ht)]
  simp only
  rw [run_bind_ok (run_sizeOf hj), vcells_eq, partsAt_sound hp hb]
  rfl

theorem run_buildSlice {t e : TypeId} {n : Nat} {vs : Array (Nat × Value)} {j : TypeInfo} {z : Value} {cs : List Value} (ht : P.underlying t = some (.slice e)) (hj : P.info? e = some j)
    (hz : j.zero = some z) (h24 : ¬ n * j.size > 2 ^ 24) (hl : (vcells z).length = j.size) (h0 : j.size ≠ 0)
    (hfill : Instr.fill (fun k => some (k * j.size, j.size)) (zerosL (vcells z) n).toArray vs.toList = some cs.toArray) :
    (Instr.buildSlice t n vs).run P w = .ok (.slice (some ⟨w.heap.size, 0, none⟩) n n) (newBlk w (.cells cs.toArray e)) := by
  have hcells : ∀ zz : Array Value, (n * j.size = 0 ∧ zz = #[] ∨ zz = (vcells z).toArray) → (Array.range (n * j.size)).map (fun i => zz[i % zz.size]!) = (zerosL (vcells z) n).toArray := by
    intro zz hzz
    by_cases hn : n = 0
    · subst hn; apply Array.ext'; simp [zerosL]
    · rcases hzz with ⟨h1, _⟩ | h1
      · rcases Nat.mul_eq_zero.1 h1 with e | e
        · exact absurd e hn
        · exact absurd e h0
      · subst h1
        rw [← hl]; exact range_zero _ (by omega) _
  unfold Instr.buildSlice
  rw [run_bind_ok (run_underlying ht)]
  simp only
  rw [run_bind_ok (run_sizeOf hj)]
  rw [if_neg h24]
  by_cases hn : n * j.size = 0
  · simp only [hn, if_true]
    rw [run_bind]; simp only [run_pure']
    have := hcells #[] (.inl ⟨hn, rfl⟩)
    rw [hn] at this
    rw [this, hfill]
    simp only
    rw [run_bind_ok (run_newRow _ _)]; rfl
  · simp only [hn, if_false]
    rw [run_bind_ok (run_zero hj hz), run_bind]
    simp only [run_pure', vcells_eq]
    rw [hcells _ (.inr rfl), hfill]
    simp only
    rw [run_bind_ok (run_newRow _ _)]; rfl

theorem does_bsl {t e : TypeId} {n : Nat} {parts : Array (Nat × Operand)} {j : TypeInfo} {z : Value} {ps : List (Nat × Nat × Operand)} (ht : P.underlying t = some (.slice e)) (hj : P.info? e = some j)
    (hz : j.zero = some z) (h24 : ¬ n * j.size > 2 ^ 24) (hl : (vcells z).length = j.size) (h0 : j.size ≠ 0) (hp : partsAt (fun k => some (k * j.size, j.size)) parts = some ps)
    (h : EOp.wp P ρ w Q (.bsl e (zerosL (vcells z) n) n ps)) : Does P ρ (.buildSlice t n parts) T w Q := by
  obtain ⟨cs, hb, q⟩ := h
  exact does_v (run_buildSlice ht hj hz h24 hl h0 (partsAt_sound hp hb)) (fun _ _ _ _ => rfl) q

theorem does_mki {t : TypeId} {d : TypeDesc} {x : Operand} (ht : P.underlying t = some d) (hd : ∀ ms, d ≠ .interface ms) (h : EOp.wp P ρ w Q (.mki t x)) : Does P ρ (.makeInterface t x) T w Q := by
  refine does_v (s := Instr.makeInterface t (ρ x)) ?_ (fun _ _ _ _ => rfl) h
  unfold Instr.makeInterface
  rw [run_bind_ok (run_underlying ht)]
  cases d <;> first | rfl | exact absurd rfl (hd _)

theorem does_raw {o : Op} (h : EOp.wp P ρ w Q (.raw o T)) (hsame : ∀ d pos af g, execOp ρ ⟨d, o, T, pos, af, g⟩ = execOp ρ { (default : Oper) with op := o, type := T }) : Does P ρ o T w Q := by
  obtain ⟨r, w', hr, q⟩ := h
  exact ⟨r, w', fun d pos af g => by rw [hsame]; exact hr, q⟩

theorem run_eqInt {e : TypeId} {k : IntKind} (he : P.underlying e = some (.int k)) (d : Nat) (a b : Int) : (Op.equalIn (d + 1) e (.int k a) (.int k b)).run P w = .ok (a == b) w := by
  unfold Op.equalIn
  rw [run_bind_ok (run_underlying he)]
  simp

theorem run_eqArr {e : TypeId} {k : IntKind} {j : TypeInfo} (he : P.underlying e = some (.int k)) (hj : P.info? e = some j) (h1 : j.size = 1) (d : Nat) (xs ys : List Int) (hlen : xs.length = ys.length) :
    ∀ (n i : Nat), i + n = xs.length → xs.take i = ys.take i →
    (forIn (List.range' i n) ((none, ()) : Option Bool × PUnit) (fun i r => do
        if !(← Op.equalIn (d + 1) e (← part e (xs.map (Value.int k)).toArray (i * 1)) (← part e (ys.map (Value.int k)).toArray (i * 1))) then pure (ForInStep.done (some false, ()))
        else pure (ForInStep.yield (none, ()))) : Sem _).run P w = .ok (if xs = ys then (none, ()) else (some false, ())) w := by
  intro n
  induction n with
  | zero =>
    intro i hi ht
    have : xs = ys := by
      rw [List.take_of_length_le (by omega), List.take_of_length_le (by omega)] at ht; exact ht
    subst this
    simp
  | succ n ih =>
    intro i hi ht
    have hx : i < xs.length := by omega
    have hy : i < ys.length := by omega
    have ha : aggOf P e = some false := by unfold aggOf; rw [he]
    have p1 : (part e (xs.map (Value.int k)).toArray (i * 1)).run P w = .ok (.int k xs[i]) w := run_part1 ha (by simp [hx])
    have p2 : (part e (ys.map (Value.int k)).toArray (i * 1)).run P w = .ok (.int k ys[i]) w := run_part1 ha (by simp [hy])
    have step : (do
        if !(← Op.equalIn (d + 1) e (← part e (xs.map (Value.int k)).toArray (i * 1)) (← part e (ys.map (Value.int k)).toArray (i * 1))) then pure (ForInStep.done (some false, ()))
        else pure (ForInStep.yield (none, ())) : Sem (ForInStep (Option Bool × PUnit))).run P w = .ok (if xs[i] = ys[i] then .yield (none, ()) else .done (some false, ())) w := by
      rw [run_bind_ok p1, run_bind_ok p2, run_bind_ok (run_eqInt he d _ _)]
      by_cases e : xs[i] = ys[i]
      · simp [e]
      · simp [e]
    rw [List.range'_succ]
    by_cases e : xs[i] = ys[i]
    · have := ih (i + 1) (by omega) (by rw [List.take_succ_eq_append_getElem hx, List.take_succ_eq_append_getElem hy, ht, e])
      rw [← this]
      simp only [List.forIn_cons]
      rw [if_pos e] at step
      rw [run_bind_ok step]
    · rw [if_neg e] at step
      have hne : ¬ xs = ys := by intro h; subst h; exact e rfl
      rw [if_neg hne]
      simp only [List.forIn_cons]
      rw [run_bind_ok step]; rfl

theorem does_eqa {neg : Bool} {t t' e : TypeId} {k : IntKind} {n : Nat} {x y : Operand} {j : TypeInfo} (ht : P.underlying t = some (.array n e)) (he : P.underlying e = some (.int k)) (hj : P.info? e = some j) (h1 : j.size = 1)
    (hg : P.eqGuardType P.depth t = false) (h : EOp.wp P ρ w Q (.eqa neg t k n x y)) : Does P ρ (.binOp (if neg then .neq else .eql) t x y t') T w Q := by
  obtain ⟨xs, ys, hx, hy, lx, ly, q⟩ := h
  refine does_v (s := do eqGuard (if neg then .neq else .eql) t x y (ρ x) (ρ y); binOp (if neg then .neq else .eql) t (ρ x) (ρ y)) ?_ (fun _ _ _ _ => rfl) q
  have hguard : ∀ op, (eqGuard op t x y (ρ x) (ρ y)).run P w = .ok () w := by
    intro op
    rw [hx, hy]
    have core : (do if !(← program).eqGuardType (← program).depth t then return
                    if ← Op.eqGuardIn Op.maxDepth t (.agg (xs.map (Value.int k)).toArray) (.agg (ys.map (Value.int k)).toArray) then
                      unsupported (.noEntry "binop/eql: two nil values of an interface type with methods, in a part of a struct or an array") : Sem Unit).run P w = .ok () w := by
      rw [run_program, run_program]; simp [hg]
    cases op <;> first | rfl | exact core
  rw [run_bind_ok (hguard _), hx, hy]
  have heq : (Op.equal t (.agg (xs.map (Value.int k)).toArray) (.agg (ys.map (Value.int k)).toArray)).run P w = .ok (xs == ys) w := by
    unfold Op.equal
    show (Op.equalIn (9998 + 1 + 1) t _ _).run P w = _
    unfold Op.equalIn
    rw [run_bind_ok (run_underlying ht)]
    simp only
    rw [run_bind_ok (run_sizeOf hj), h1]
    have := run_eqArr (w := w) he hj h1 9998 xs ys (by omega) n 0 (by omega) rfl
    simp only [Std.Legacy.Range.forIn_eq_forIn_range', Std.Legacy.Range.size, Nat.sub_zero, Nat.add_sub_cancel, Nat.div_one]
    rw [run_bind_ok this]
    by_cases e : xs = ys
    · rw [if_pos e, e]; simp
    · rw [if_neg e]; simp [e]
  cases neg with
  | false => show Sem.run P (do pure (Value.bool (← Op.equal t _ _))) w = _; rw [run_bind_ok heq]; rfl
  | true => show Sem.run P (do pure (Value.bool (!(← Op.equal t _ _)))) w = _; rw [run_bind_ok heq]; rfl

end
end Eng
end Go.Proofs.YtnfomoeicgdkkaaGreatDoor
