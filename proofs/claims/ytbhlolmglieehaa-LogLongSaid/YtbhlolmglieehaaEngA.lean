/- Heap assertions over blocks: which blocks a piece of code owns, which it only reads, and that nothing else turns. -/
import Derived.Calls
import Derived.Below
set_option linter.unusedSimpArgs false
set_option linter.unusedVariables false
namespace Go.Proofs.Ytbhlolmglieehaa
namespace Eng

abbrev Hp := Nat → Option Obj

/-- h is a and b, apart -/
structure Split (h a b : Hp) : Prop where
  dis : ∀ n, a n = none ∨ b n = none
  eq : ∀ n, h n = (a n).or (b n)

def join (a b : Hp) : Hp := fun n => (a n).or (b n)
def noHp : Hp := fun _ => none

theorem Split.symm {h a b : Hp} (s : Split h a b) : Split h b a :=
  ⟨fun n => (s.dis n).symm, fun n => by
    rw [s.eq n]
    rcases s.dis n with e | e <;> rw [e] <;> cases a n <;> cases b n <;> simp_all⟩

theorem Split.mk' {a b : Hp} (d : ∀ n, a n = none ∨ b n = none) : Split (join a b) a b := ⟨d, fun _ => rfl⟩

theorem Split.left {h a b : Hp} (s : Split h a b) {n : Nat} {o : Obj} (e : a n = some o) : h n = some o := by
  rw [s.eq n, e]; rfl
theorem Split.right {h a b : Hp} (s : Split h a b) {n : Nat} {o : Obj} (e : b n = some o) : h n = some o :=
  s.symm.left e

theorem Split.none_left {h a b : Hp} (s : Split h a b) {n : Nat} (e : h n = none) : a n = none := by
  rw [s.eq n] at e; cases ha : a n <;> simp_all
theorem Split.none_right {h a b : Hp} (s : Split h a b) {n : Nat} (e : h n = none) : b n = none := s.symm.none_left e

theorem Split.cases {h a b : Hp} (s : Split h a b) {n : Nat} {o : Obj} (e : h n = some o) : a n = some o ∨ b n = some o := by
  rw [s.eq n] at e
  cases ha : a n with
  | none => rw [ha] at e; exact .inr e
  | some x => rw [ha] at e; exact .inl e

theorem Split.assoc {h a bc b c : Hp} (s : Split h a bc) (t : Split bc b c) : Split h (join a b) c ∧ Split (join a b) a b := by
  have dab : ∀ n, a n = none ∨ b n = none := fun n => by
    rcases s.dis n with e | e
    · exact .inl e
    · exact .inr (t.none_left e)
  refine ⟨⟨fun n => ?_, fun n => ?_⟩, Split.mk' dab⟩
  · rcases t.dis n with e | e
    · rcases s.dis n with f | f
      · left; simp [join, e, f]
      · right; exact t.none_right f
    · exact .inr e
  · rw [s.eq n, t.eq n]; simp [join, Option.or_assoc]

theorem Split.assoc' {h ab c a b : Hp} (s : Split h ab c) (t : Split ab a b) : Split h a (join b c) ∧ Split (join b c) b c := by
  have ⟨x, y⟩ := s.symm.assoc t.symm
  refine ⟨?_, ?_⟩
  · have := x.symm
    refine ⟨fun n => ?_, fun n => ?_⟩
    · rcases this.dis n with e | e
      · exact .inl e
      · right; simp only [join] at e ⊢; cases hc : c n <;> cases hb : b n <;> simp_all
    · rw [this.eq n]; congr 1; simp only [join]; rcases y.dis n with e | e <;> rw [e] <;> cases c n <;> cases b n <;> simp_all
  · exact Split.mk' fun n => (y.dis n).symm

theorem Split.empty (h : Hp) : Split h noHp h := ⟨fun _ => .inl rfl, fun _ => rfl⟩

/-- an assertion on memory: a block that is known whole, or anything -/
inductive HA where
  | pt (b : Nat) (o : Obj)
  | abs (p : Hp → Prop)

def HA.holds : HA → Hp → Prop
  | .pt b o, h => h b = some o
  | .abs p, h => p h

/-- several, apart from each other; what else lies there is let go -/
def seps : List HA → Hp → Prop
  | [], _ => True
  | p :: ps, h => ∃ a b, Split h a b ∧ p.holds a ∧ seps ps b

/-- a named group of assertions -/
def grp (I : List HA → Prop) : HA := .abs fun h => ∃ G, I G ∧ seps G h

theorem seps_up {ps : List HA} : ∀ {h a b : Hp}, seps ps b → Split h a b → seps ps h := by
  induction ps with
  | nil => intros; trivial
  | cons p ps ih =>
    intro h a b ⟨x, y, s, hp, hps⟩ t
    have ⟨u, v⟩ := t.symm.assoc' s
    exact ⟨x, _, u, hp, ih hps v.symm⟩

theorem seps_append {xs ys : List HA} : ∀ {h : Hp}, seps (xs ++ ys) h ↔ ∃ a b, Split h a b ∧ seps xs a ∧ seps ys b := by
  induction xs with
  | nil => intro h; exact ⟨fun q => ⟨noHp, h, Split.empty h, trivial, q⟩, fun ⟨_, _, s, _, q⟩ => seps_up q s⟩
  | cons p xs ih =>
    intro h
    constructor
    · rintro ⟨a, b, s, hp, q⟩
      obtain ⟨c, d, t, qx, qy⟩ := ih.1 q
      have ⟨u, v⟩ := s.assoc t
      exact ⟨_, d, u, ⟨a, c, v, hp, qx⟩, qy⟩
    · rintro ⟨a, b, s, ⟨c, d, t, hp, qx⟩, qy⟩
      have ⟨u, v⟩ := s.assoc' t
      exact ⟨c, _, u, hp, ih.2 ⟨d, b, v, qx, qy⟩⟩

theorem seps_tail {p : HA} {ps : List HA} {h : Hp} (q : seps (p :: ps) h) : seps ps h := by
  obtain ⟨a, b, s, _, q⟩ := q; exact seps_up q s

theorem seps_swap {p q : HA} {ps : List HA} {h : Hp} (x : seps (p :: q :: ps) h) : seps (q :: p :: ps) h := by
  obtain ⟨a, b, s, hp, c, d, t, hq, r⟩ := x
  have ⟨u, v⟩ := s.assoc t
  have ⟨u', v'⟩ := u.assoc' v.symm
  exact ⟨c, _, u', hq, a, d, v', hp, r⟩

theorem seps_cons {p : HA} {ps qs : List HA} (f : ∀ h, seps ps h → seps qs h) {h : Hp} (x : seps (p :: ps) h) : seps (p :: qs) h := by
  obtain ⟨a, b, s, hp, q⟩ := x; exact ⟨a, b, s, hp, f _ q⟩

/-- x taken out of a list -/
inductive Sel : List HA → HA → List HA → Prop where
  | here {x H} : Sel (x :: H) x H
  | there {x y H H'} : Sel H x H' → Sel (y :: H) x (y :: H')

theorem Sel.sound {H H' : List HA} {x : HA} (s : Sel H x H') : ∀ {h : Hp}, seps H h → seps (x :: H') h := by
  induction s with
  | here => exact id
  | there _ ih => intro h q; exact seps_swap (seps_cons (fun _ => ih) q)

theorem Sel.back {H H' : List HA} {x : HA} (s : Sel H x H') : ∀ {h : Hp}, seps (x :: H') h → seps H h := by
  induction s with
  | here => exact id
  | there _ ih => intro h q; exact seps_cons (fun _ => ih) (seps_swap q)

inductive Take : List HA → List HA → List HA → Prop where
  | nil {H} : Take H [] H
  | cons {H H1 R p ps} : Sel H p H1 → Take H1 ps R → Take H (p :: ps) R

theorem Take.sound {H ps R : List HA} (t : Take H ps R) : ∀ {h : Hp}, seps H h → seps (ps ++ R) h := by
  induction t with
  | nil => exact id
  | cons s _ ih => intro h q; exact seps_cons (fun _ => ih) (s.sound q)

/-- x in a list, put y in its place -/
inductive Upd : List HA → HA → HA → List HA → Prop where
  | here {x y H} : Upd (x :: H) x y (y :: H)
  | there {x y z H H'} : Upd H x y H' → Upd (z :: H) x y (z :: H')

theorem Upd.sels {H H' : List HA} {x y : HA} (u : Upd H x y H') : ∃ R, Sel H x R ∧ Sel H' y R := by
  induction u with
  | here => exact ⟨_, .here, .here⟩
  | there _ ih => obtain ⟨R, a, b⟩ := ih; exact ⟨_, .there a, .there b⟩

theorem seps_mem {H : List HA} {x : HA} (m : x ∈ H) : ∀ {h : Hp}, seps H h → ∃ a b, Split h a b ∧ x.holds a := by
  induction m with
  | head => intro h ⟨a, b, s, q, _⟩; exact ⟨a, b, s, q⟩
  | tail _ _ ih =>
    intro h ⟨a, b, s, _, q⟩
    obtain ⟨c, d, t, e⟩ := ih q
    have ⟨u, _⟩ := s.symm.assoc' t
    exact ⟨c, _, u, e⟩

theorem seps_mem_pt {H : List HA} {b : Nat} {o : Obj} (m : HA.pt b o ∈ H) {h : Hp} (q : seps H h) : h b = some o := by
  obtain ⟨x, y, s, e⟩ := seps_mem m q; exact s.left e

/-- the world has what is owned (h) and what is only read (F), apart -/
structure Fits (F h : Hp) (w : World) : Prop where
  dis : ∀ n, h n = none ∨ F n = none
  own : ∀ n o, h n = some o → w.heap[n]? = some o
  frm : ∀ n o, F n = some o → w.heap[n]? = some o

structure Keeps (w w' : World) : Prop where
  os : w'.os = w.os
  tape : w'.tape = w.tape
  output : w'.output = w.output
  size : w.heap.size ≤ w'.heap.size

theorem Keeps.refl (w : World) : Keeps w w := ⟨rfl, rfl, rfl, Nat.le_refl _⟩
theorem Keeps.trans {a b c : World} (h : Keeps a b) (k : Keeps b c) : Keeps a c :=
  ⟨k.os.trans h.os, k.tape.trans h.tape, k.output.trans h.output, Nat.le_trans h.size k.size⟩

def Ext (F F' : Hp) : Prop := ∀ n o, F n = some o → F' n = some o
theorem Ext.refl (F : Hp) : Ext F F := fun _ _ e => e
theorem Ext.trans {F G H : Hp} (a : Ext F G) (b : Ext G H) : Ext F H := fun n o e => b n o (a n o e)

theorem Fits.split {F h a b : Hp} {w : World} (f : Fits F h w) (s : Split h a b) : Fits (join F b) a w := by
  refine ⟨fun n => ?_, fun n o e => f.own n o (s.left e), fun n o e => ?_⟩
  · rcases s.dis n with e | e
    · exact .inl e
    · rcases f.dis n with g | g
      · exact .inl (s.none_left g)
      · right; simp [join, e, g]
  · simp only [join] at e
    cases hF : F n with
    | none => rw [hF] at e; exact f.own n o (s.right e)
    | some x => rw [hF] at e; exact f.frm n o (by rw [hF]; exact e)

theorem Fits.unsplit {F b a : Hp} {w : World} (f : Fits (join F b) a w) (d : ∀ n, b n = none ∨ F n = none) : Fits F (join a b) w ∧ Split (join a b) a b := by
  have dab : ∀ n, a n = none ∨ b n = none := fun n => by
    rcases f.dis n with e | e
    · exact .inl e
    · right; simp only [join] at e; cases hF : F n <;> simp_all
  refine ⟨⟨fun n => ?_, fun n o e => ?_, fun n o e => ?_⟩, Split.mk' dab⟩
  · rcases d n with e | e
    · rcases f.dis n with g | g
      · left; simp [join, e, g]
      · right; simp only [join] at g; cases hF : F n <;> simp_all
    · exact .inr e
  · rcases (Split.mk' dab).cases e with g | g
    · exact f.own n o g
    · refine f.frm n o ?_
      rcases d n with x | x
      · rw [x] at g; cases g
      · simp [join, x, g]
  · exact f.frm n o (by simp [join, e])

/-- what is known of the frame: the blocks of a list that are known whole -/
def Known (H : List HA) (F : Hp) : Prop := ∀ b o, HA.pt b o ∈ H → F b = some o

/-- A call's contract: it owns Pre, reads F, ends with a value and memory of which R says what they are. -/
def Spec (P : Program) (f : FuncId) (args : Array Value) (F : Hp) (Pre : List HA) (R : Value → List HA → Prop) : Prop :=
  ∀ w h, seps Pre h → Fits F h w → Calls P f args w fun e w' => ∃ v H' h', e = .returned v ∧ R v H' ∧ seps H' h' ∧ Fits F h' w' ∧ Keeps w w'

theorem Spec.mono {P : Program} {f : FuncId} {args : Array Value} {F : Hp} {Pre : List HA} {R R' : Value → List HA → Prop}
    (s : Spec P f args F Pre R) (m : ∀ v H', R v H' → R' v H') : Spec P f args F Pre R' :=
  fun w h q k => (s w h q k).mono fun _ _ ⟨v, H', h', e, r, x⟩ => ⟨v, H', h', e, m _ _ r, x⟩

/-- the frame rule at a call -/
theorem Spec.frame {P : Program} {f : FuncId} {args : Array Value} {F : Hp} {H Pre Rest : List HA} {R : Value → List HA → Prop}
    (t : Take H Pre Rest) (s : ∀ F', Ext F F' → Known Rest F' → Spec P f args F' Pre R) :
    Spec P f args F H fun v H' => ∃ G, R v G ∧ H' = G ++ Rest := by
  intro w h q k
  obtain ⟨a, b, sp, qa, qb⟩ := seps_append.1 (t.sound q)
  have hb : ∀ n, b n = none ∨ F n = none := fun n => (k.dis n).imp sp.none_right id
  have ext : Ext F (join F b) := fun n o e => by simp [join, e]
  have known : Known Rest (join F b) := fun n o m => by
    have := seps_mem_pt m qb
    rcases hb n with e | e
    · rw [e] at this; cases this
    · simp [join, e, this]
  refine (s (join F b) ext known w a qa (k.split sp)).mono ?_
  rintro e w' ⟨v, H', h', he, r, q', k', kp⟩
  have ⟨k2, s2⟩ := k'.unsplit hb
  exact ⟨v, _, _, he, ⟨H', r, rfl⟩, seps_append.2 ⟨h', b, s2, q', qb⟩, k2, kp⟩

end Eng
end Go.Proofs.Ytbhlolmglieehaa
