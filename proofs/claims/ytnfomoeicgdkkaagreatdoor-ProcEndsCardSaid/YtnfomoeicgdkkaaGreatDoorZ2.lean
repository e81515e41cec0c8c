/- Code with its regions resolved, and what is to do (Run). -/
import Derived.Test.YtnfomoeicgdkkaaGreatDoorZ1
set_option linter.unusedSimpArgs false
set_option linter.unusedVariables false
namespace Go.Proofs.YtnfomoeicgdkkaaGreatDoor
namespace Eng

def pairsB {α : Type} (r : α → α → Bool) : List α → Bool
  | [] => true
  | p :: l => l.all (r p) && pairsB r l

theorem pairsB_sound {α : Type} {r : α → α → Bool} {l : List α} (h : pairsB r l = true) : l.Pairwise fun p q => r p q = true := by
  induction l with
  | nil => exact .nil
  | cons p l ih =>
    simp only [pairsB, Bool.and_eq_true, List.all_eq_true] at h
    exact .cons h.1 (ih h.2)

def compileList (P : Program) (n : Nat) (ops : Array Oper) : Nat → List Oper → Option (List EG)
  | _, [] => some []
  | i, o :: r => match compileG P n ops i o with
    | none => none
    | some e => match compileList P n ops (i + 1) r with
      | none => none
      | some es => some (e :: es)

theorem compileG_idx {P : Program} {n : Nat} {ops : Array Oper} {i : Nat} {o : Oper} {e : EG} (h : compileG P n ops i o = some e) : e.idx = i ∧ e.calm = false := by
  unfold compileG at h
  split at h
  · cases h
  · split at h
    · split at h
      · cases h; exact ⟨rfl, rfl⟩
      · split at h
        · cases h; exact ⟨rfl, rfl⟩
        · cases h
    · cases h

theorem compileList_sound {P : Program} {n : Nat} {ops : Array Oper} : ∀ (l : List Oper) (i : Nat) (es : List EG), compileList P n ops i l = some es → (∀ k, l[k]? = ops[i + k]?) →
    es.length = l.length ∧ ∀ k e, es[k]? = some e → e.idx = i + k ∧ From P n ops e := by
  intro l
  induction l with
  | nil => intro i es h _; cases h; exact ⟨rfl, fun k e x => by simp at x⟩
  | cons o l ih =>
    intro i es h hl
    simp only [compileList] at h
    split at h
    · cases h
    · rename_i e he
      split at h
      · cases h
      · rename_i es' hes
        cases h
        have ⟨h1, h2⟩ := ih (i + 1) es' hes (fun k => by have := hl (k + 1); simpa [Nat.add_assoc, Nat.add_comm 1 k] using this)
        refine ⟨by simp [h1], fun k x hx => ?_⟩
        cases k with
        | zero =>
          simp at hx; subst hx
          have hi := compileG_idx he
          refine ⟨hi.1, o, ?_, ?_⟩
          · rw [hi.1]; simpa using (hl 0).symm
          · obtain ⟨x1, x2, x3, x4, x5⟩ := e
            simp only at hi
            obtain ⟨rfl, rfl⟩ := hi
            exact he
        | succ k =>
          have := h2 k x (by simpa using hx)
          exact ⟨by rw [this.1]; omega, this.2⟩

def withCalm (es : List EG) (p : Nat × Bool) : EG := { es.getD p.1 default with calm := p.2 }

def ancB (ops : Array Oper) (p q : EG) : Bool := ((msOf ops).getD q.idx 0).testBit p.idx

def drawOK (ops : Array Oper) (plan : List (List (Nat × Bool))) (segs : List (List EG)) : Bool :=
  let flat := segs.flatten
  ((List.range ops.size).all fun i => (edgesOf ops i).all fun x => decide (x < ops.size)) &&
  (plan.flatten.all fun p => decide (p.1 < ops.size)) && ((List.range ops.size).all fun i => flat.any fun e => e.idx == i) &&
  pairsB (fun p q => !(p == q)) (flat.map (·.idx)) && decide (flat.length ≤ ops.size) &&
  pairsB (fun p q => !(edgesOf ops p.idx).contains q.idx) flat && (flat.all fun e => !(edgesOf ops e.idx).contains e.idx) &&
  (segs.all fun s => pairsB (fun p q => ancB ops p q || ((p.calm || (freshKind q.op && !q.calm && q.guard == none)) && indep p q && notRaw p.op && notRaw q.op)) s) &&
  pairsB (fun s r => s.all fun p => r.all fun q => ancB ops p q || (p.calm && pureKind p.op && indep p q && notRaw p.op && notRaw q.op)) segs

def planOf (ops : Array Oper) (es : List EG) : List (List (Nat × Bool)) :=
  let ms := msOf ops
  let ck := fun i => calmKind (es.getD i default).op
  let ord := orderOf ms (fun i => pureKind (es.getD i default).op) ck (fun i => freshKind (es.getD i default).op) es.length (List.range es.length) 0
  (cutSegs ms (fun i => !pureKind (es.getD i default).op) ord [] 0).map fun s =>
    -- a group with one operation that asks or turns the world needs no calm but that of what asks nothing
    if (s.filter fun i => !pureKind (es.getD i default).op).length ≤ 1 then s.map fun i => (i, pureKind (es.getD i default).op) else s.map fun i => (i, ck i)

def compileReg (P : Program) (n : Nat) (ops : Array Oper) (draw : Bool) : Option (List (List EG)) :=
  match compileList P n ops 0 ops.toList with
  | none => none
  | some es =>
    if draw = false then some [es] else
      let plan := planOf ops es
      let segs := plan.map fun s => s.map (withCalm es)
      if drawOK ops plan segs = true ∧ (P.follows .mixedOrders || !Region.departs ops) = true then some segs else none

section
variable {P : Program} {f : FuncId} {K : List Item} {Z : Ending → World → Prop}

theorem reg_goes {n : Nat} {ops : Array Oper} {draw : Bool} {segs : List (List EG)} {id : Nat} (hc : compileReg P n ops draw = some segs) {F : Hp} {C : Fr → List HA → Prop} {w0 : World} (hresp : Respects C) (hcl : Closed C)
    (hC : ∀ l H a w h, C l H → FrOk n l a → seps H h → Fits F h w → Keeps w0 w → Goes P f K a w Z)
    {l : Fr} {H : List HA} {a : Act} {w : World} {h : Hp} (s : Segs P F segs l H C) (fa : FrOk n l a) (q : seps H h) (fw : Fits F h w) (k : Keeps w0 w) :
    Goes P f (.code (.region id ops draw) :: K) a w Z := by
  unfold compileReg at hc
  split at hc
  · cases hc
  · rename_i es hes
    have ⟨hlen, hfrom⟩ := compileList_sound ops.toList 0 es hes (fun k => by simp)
    split at hc
    · rename_i hd
      subst hd
      cases hc
      refine Goes.region ?_
      have hidx : List.range ops.size = es.map (·.idx) := by
        apply List.ext_getElem?
        intro i
        rw [List.getElem?_map]
        cases he : es[i]? with
        | none =>
          have : es.length ≤ i := List.getElem?_eq_none_iff.1 he
          rw [List.getElem?_eq_none (by simp at hlen ⊢; omega)]; rfl
        | some e =>
          have h1 := (hfrom i e he).1
          have h2 : i < es.length := by
            rcases Nat.lt_or_ge i es.length with h3 | h3
            · exact h3
            · rw [List.getElem?_eq_none h3] at he; cases he
          rw [List.getElem?_range (by simp at hlen; omega)]; simp [h1]
      have hall : ∀ e ∈ es, From P n ops e := by
        intro e he
        obtain ⟨i, hi⟩ := List.getElem?_of_mem he
        exact (hfrom i e hi).2
      rw [hidx]
      rcases s with o | ⟨S, M, tk, body⟩
      · exact text_goes (C := fun l' M' => C l' M') (F := F) (w0 := w0) hC es l H a w h hall o fa q fw k
      obtain ⟨F', hm, hs, ext, kn, qm, fm, rfl, hdis, qs⟩ := Take.frame tk q fw
      have o := body _ ext kn
      refine text_goes (C := fun l' M' => C l' (S ++ M')) (F := join F hs) (w0 := w0) ?_ es l M a w hm hall o fa qm fm k
      intro l' M' a' w' h' c fa' q' fw' k'
      have ⟨k2, s2⟩ := fw'.unsplit hdis
      exact hC l' (S ++ M') a' w' _ c fa' (seps_append.2 ⟨hs, h', s2.symm, qs, q'⟩) k2 k'
    · rename_i hd
      have hd' : draw = true := by cases draw <;> simp_all
      subst hd'
      simp only at hc
      split at hc
      · rename_i hok
        cases hc
        obtain ⟨hok, hmix⟩ := hok
        unfold drawOK at hok
        simp only [Bool.and_eq_true] at hok
        obtain ⟨⟨⟨⟨⟨⟨⟨⟨c2, c3⟩, c4⟩, c5⟩, c6⟩, c7⟩, c8⟩, c10⟩, c11⟩ := hok
        have hr : ∀ i, ∀ x ∈ edgesOf ops i, x < ops.size := by
          intro i x hx
          by_cases hi : i < ops.size
          · have := List.all_eq_true.1 (List.all_eq_true.1 c2 i (List.mem_range.2 hi)) x hx
            simpa using this
          · unfold edgesOf at hx
            rw [Array.getElem?_eq_none (by omega)] at hx
            cases hx
        have hfr : ∀ p ∈ (planOf ops es).flatten, From P n ops (withCalm es p) ∧ (withCalm es p).idx = p.1 := by
          intro p hp
          have hlt : p.1 < ops.size := by simpa using List.all_eq_true.1 c3 p hp
          have hlt' : p.1 < es.length := by simp at hlen; omega
          have hg : es[p.1]? = some es[p.1] := List.getElem?_eq_getElem hlt'
          have hgd : es.getD p.1 default = es[p.1] := by simp [List.getD_eq_getElem?_getD, hg]
          have := hfrom p.1 es[p.1] hg
          refine ⟨?_, ?_⟩
          · obtain ⟨o, ho, hco⟩ := this.2
            refine ⟨o, ?_, ?_⟩
            · simp only [withCalm, hgd]; exact ho
            · simp only [withCalm, hgd]; exact hco
          · simp only [withCalm, hgd]; rw [this.1]; omega
        have hmem : ∀ s ∈ (planOf ops es).map (fun s => s.map (withCalm es)), ∀ e ∈ s, From P n ops e := by
          intro s hs e he
          obtain ⟨s', hs', rfl⟩ := List.mem_map.1 hs
          obtain ⟨p, hp, rfl⟩ := List.mem_map.1 he
          exact (hfr p (List.mem_flatten.2 ⟨s', hs', hp⟩)).1
        have hflatlt : ∀ e ∈ ((planOf ops es).map (fun s => s.map (withCalm es))).flatten, e.idx < ops.size := by
          intro e he
          obtain ⟨s, hs, he'⟩ := List.mem_flatten.1 he
          obtain ⟨s', hs', rfl⟩ := List.mem_map.1 hs
          obtain ⟨p, hp, rfl⟩ := List.mem_map.1 he'
          have h1 := hfr p (List.mem_flatten.2 ⟨s', hs', hp⟩)
          rw [h1.2]
          simpa using List.all_eq_true.1 c3 p (List.mem_flatten.2 ⟨s', hs', hp⟩)
        have gok : GOK P n ops ((planOf ops es).map (fun s => s.map (withCalm es))) := by
          refine ⟨hmem, fun s hs => ?_, ?_⟩
          · refine (pairsB_sound (List.all_eq_true.1 c10 s hs)).imp fun {p q} h => ?_
            simp only [Bool.or_eq_true, Bool.and_eq_true] at h
            rcases h with h | ⟨⟨⟨h1, h2⟩, h3⟩, h4⟩
            · exact .inl h
            · refine .inr ⟨?_, indep_sound h2, h3, h4⟩
              rcases h1 with h1 | ⟨⟨h1, h5⟩, h6⟩
              · exact .inl h1
              · exact .inr ⟨h1, by simpa using h5, by simpa using h6⟩
          · refine (pairsB_sound c11).imp fun {s r} h p hp q hq => ?_
            have := List.all_eq_true.1 (List.all_eq_true.1 h p hp) q hq
            simp only [Bool.or_eq_true, Bool.and_eq_true] at this
            rcases this with h | ⟨⟨⟨⟨h1, h2⟩, h3⟩, h4⟩, h5⟩
            · exact .inl h
            · exact .inr ⟨h1, h2, indep_sound h3, h4, h5⟩
        have inv : Inv ops (Array.replicate ops.size false) ((planOf ops es).map (fun s => s.map (withCalm es))).flatten := by
          refine ⟨by simp, fun i hi => ?_, ?_, hflatlt, fun i hi hl => ?_, ?_, ?_⟩
          · constructor
            · intro _
              have := List.all_eq_true.1 c4 i (List.mem_range.2 hi)
              obtain ⟨e, he, h1⟩ := List.any_eq_true.1 this
              exact ⟨e, he, by simpa using h1⟩
            · intro _; simp [Array.getD, hi]
          · refine (pairsB_sound c5).imp fun {p q} h => ?_
            simpa using h
          · simp [Array.getD, hi] at hl
          · refine (pairsB_sound c7).imp fun {p q} h => ?_
            simpa using h
          · intro e he
            have := List.all_eq_true.1 c8 e he
            simpa using this
        refine Goes.region_draw fun t => ?_
        have hsch : Region.schedule (P.follows .mixedOrders) ops t = Region.linearise.go .any ops ops.size t (Array.replicate ops.size false) [] := by
          unfold Region.schedule Region.linearise
          rw [hmix]; rfl
        rw [hsch]
        have hflen : ((planOf ops es).map (fun s => s.map (withCalm es))).flatten.length ≤ ops.size := by simpa using c6
        have inv2 : Inv ops (Array.replicate ops.size false) ([] ++ ((planOf ops es).map (fun s => s.map (withCalm es))).flatten) := inv
        exact all_goes hr (w0 := w0) (F := F) (C := C) hresp hcl hC ops.size _ F [] [] l H t _ a _ h (fun M' h' w' a b => ⟨h', a, b⟩) (fun e he => by cases he) .nil (fun s hs p hp => by cases hp) gok inv2 hflen s fa q fw.drew (k.trans (Keeps.drew w))
      · cases hc
end

def compile (P : Program) (n : Nat) : Code → Option EC
  | .skip => some .skip
  | .seq a b => match compile P n a, compile P n b with
    | some x, some y => some (.seq x y)
    | _, _ => none
  | .cond c a b => match compile P n a, compile P n b with
    | some x, some y => some (.cond c x y)
    | _, _ => none
  | .block i b => (compile P n b).map (.block i)
  | .loop b => (compile P n b).map .loop
  | .exit i => some (.exit i)
  | .ret => some .ret
  | .region _ ops draw => (compileReg P n ops draw).map .reg
  | _ => none


inductive EI where
  | code (c : EC)
  | blk (id : Nat)
  | lp (c : EC)
  deriving Inhabited

inductive IRel (P : Program) (n : Nat) : List EI → List Item → Prop where
  | nil : IRel P n [] []
  | code {c c' K K'} : compile P n c' = some c → IRel P n K K' → IRel P n (.code c :: K) (.code c' :: K')
  | blk {i K K'} : IRel P n K K' → IRel P n (.blk i :: K) (.inBlock i :: K')
  | lp {c c' K K'} : compile P n c' = some c → IRel P n K K' → IRel P n (.lp c :: K) (.inLoop c' :: K')

def exitE (id : Nat) : List EI → Option (List EI)
  | .blk i :: K => bif Nat.beq i id then some K else exitE id K
  | _ :: K => exitE id K
  | [] => none

theorem exitE_sound {P : Program} {n i : Nat} {K : List EI} {K' : List Item} (r : IRel P n K K') : ∀ {K2 : List EI}, exitE i K = some K2 → ∃ K2', exitTo i K' = some K2' ∧ IRel P n K2 K2' := by
  induction r with
  | nil => intro K2 h; cases h
  | code _ _ ih => intro K2 h; exact ih h
  | lp _ _ ih => intro K2 h; exact ih h
  | @blk j K K' r ih =>
    intro K2 h
    simp only [exitE] at h
    by_cases hj : j = i
    · subst hj
      have : Nat.beq j j = true := by simp
      rw [this] at h
      cases h
      exact ⟨K', by simp [exitTo], r⟩
    · have : Nat.beq j i = false := by
        cases hb : Nat.beq j i with
        | false => rfl
        | true => exact absurd (Nat.eq_of_beq_eq_true hb) hj
      rw [this] at h
      obtain ⟨K2', h1, h2⟩ := ih h
      exact ⟨K2', by simp [exitTo, hj, h1], h2⟩

/-- From here (what is to do, what is known of the temporaries, what is owned) the function comes to its end with a value and memory as R says. -/
def Run (P : Program) (f : FuncId) (n : Nat) (F : Hp) (K : List EI) (l : Fr) (H : List HA) (R : Value → List HA → Prop) : Prop :=
  ∀ K' w0 w h a, IRel P n K K' → seps H h → Fits F h w → FrOk n l a → Keeps w0 w →
    Goes P f K' a w fun e w' => ∃ v H' h', e = .returned v ∧ R v H' ∧ seps H' h' ∧ Fits F h' w' ∧ Keeps w0 w'

section
variable {P : Program} {f : FuncId} {n : Nat} {F : Hp} {K : List EI} {l : Fr} {H : List HA} {R : Value → List HA → Prop}

theorem Run.eq {l' : Fr} (e : FrEq l l') (r : Run P f n F K l H R) : Run P f n F K l' H R :=
  fun K' w0 w h a i q fw fa k => r K' w0 w h a i q fw (fa.eq fun t => (e t).symm) k

/-- less known of the temporaries -/
theorem Run.sub {l' : Fr} (e : FrSub l l') (r : Run P f n F K l' H R) : Run P f n F K l H R :=
  fun K' w0 w h a i q fw fa k => r K' w0 w h a i q fw (fa.sub e) k

theorem Run.mono {R' : Value → List HA → Prop} (h : ∀ v H', R v H' → R' v H') (r : Run P f n F K l H R) : Run P f n F K l H R' :=
  fun K' w0 w hh a i q fw fa k => (r K' w0 w hh a i q fw fa k).mono fun _ _ ⟨v, H', h', e, x, y⟩ => ⟨v, H', h', e, h _ _ x, y⟩

theorem compile_inv {c : EC} {c' : Code} (h : compile P n c' = some c) : match c with
    | .skip => c' = .skip
    | .seq a b => ∃ a' b', c' = .seq a' b' ∧ compile P n a' = some a ∧ compile P n b' = some b
    | .cond x a b => ∃ a' b', c' = .cond x a' b' ∧ compile P n a' = some a ∧ compile P n b' = some b
    | .block i b => ∃ b', c' = .block i b' ∧ compile P n b' = some b
    | .loop b => ∃ b', c' = .loop b' ∧ compile P n b' = some b
    | .exit i => c' = .exit i
    | .ret => c' = .ret
    | .reg s => ∃ id ops draw, c' = .region id ops draw ∧ compileReg P n ops draw = some s := by
  cases c' with
  | skip => cases h; rfl
  | seq a b =>
    simp only [compile] at h
    split at h
    · rename_i x y hx hy; cases h; exact ⟨_, _, rfl, hx, hy⟩
    · cases h
  | cond x a b =>
    simp only [compile] at h
    split at h
    · rename_i x y hx hy; cases h; exact ⟨_, _, rfl, hx, hy⟩
    · cases h
  | block i b =>
    simp only [compile] at h
    cases hb : compile P n b with
    | none => rw [hb] at h; cases h
    | some x => rw [hb] at h; cases h; exact ⟨_, rfl, hb⟩
  | loop b =>
    simp only [compile] at h
    cases hb : compile P n b with
    | none => rw [hb] at h; cases h
    | some x => rw [hb] at h; cases h; exact ⟨_, rfl, hb⟩
  | exit i => cases h; rfl
  | ret => cases h; rfl
  | region id ops draw =>
    simp only [compile] at h
    cases hb : compileReg P n ops draw with
    | none => rw [hb] at h; cases h
    | some x => rw [hb] at h; cases h; exact ⟨_, _, _, rfl, hb⟩
  | _ => cases h

theorem Run.skip (r : Run P f n F K l H R) : Run P f n F (.code .skip :: K) l H R := by
  intro K' w0 w h a i q fw fa k
  cases i with
  | code hc i => have := compile_inv hc; simp only at this; subst this; exact Goes.skip (r _ _ _ _ _ i q fw fa k)

theorem Run.seq {x y : EC} (r : Run P f n F (.code x :: .code y :: K) l H R) : Run P f n F (.code (.seq x y) :: K) l H R := by
  intro K' w0 w h a i q fw fa k
  cases i with
  | code hc i => obtain ⟨x', y', rfl, hx, hy⟩ := compile_inv hc; exact Goes.seq (r _ _ _ _ _ (.code hx (.code hy i)) q fw fa k)

theorem Run.block {id : Nat} {x : EC} (r : Run P f n F (.code x :: .blk id :: K) l H R) : Run P f n F (.code (.block id x) :: K) l H R := by
  intro K' w0 w h a i q fw fa k
  cases i with
  | code hc i => obtain ⟨x', rfl, hx⟩ := compile_inv hc; exact Goes.block (r _ _ _ _ _ (.code hx (.blk i)) q fw fa k)

theorem Run.blk {id : Nat} (r : Run P f n F K l H R) : Run P f n F (.blk id :: K) l H R := by
  intro K' w0 w h a i q fw fa k
  cases i with
  | blk i => exact Goes.inBlock (r _ _ _ _ _ i q fw fa k)

theorem Run.loop {x : EC} (r : Run P f n F (.code x :: .lp x :: K) l H R) : Run P f n F (.code (.loop x) :: K) l H R := by
  intro K' w0 w h a i q fw fa k
  cases i with
  | code hc i => obtain ⟨x', rfl, hx⟩ := compile_inv hc; exact Goes.loop (r _ _ _ _ _ (.code hx (.lp hx i)) q fw fa k)

/-- a round's end is the loop's begin -/
theorem Run.lp {x : EC} (r : Run P f n F (.code (.loop x) :: K) l H R) : Run P f n F (.lp x :: K) l H R := by
  intro K' w0 w h a i q fw fa k
  cases i with
  | lp hc i =>
    rename_i c' K'
    have hl : compile P n (.loop c') = some (.loop x) := by simp [compile, hc]
    have g := r (.code (.loop c') :: K') w0 w h a (.code hl i) q fw fa k
    intro b cs hb hk
    obtain ⟨e, w', fr, z, c, rest⟩ := g b cs hb hk
    refine ⟨e, w', fr, z, ?_, rest⟩
    cases e with
    | returned v =>
      obtain ⟨m, hm⟩ := c
      cases m with
      | zero =>
        simp only [runN] at hm
        obtain ⟨e1, z2⟩ := z
        have hfr : lone (b.at a (.code (.loop c') :: K')) cs w = lone fr cs w' := by
          injection hm
        exfalso
        simp only [lone, Machine.mk.injEq] at hfr
        have h2 := congrArg (fun g => g[0]?) hfr.2.1
        simp at h2
        have := rest.2.1
        rw [← h2] at this
        simp [Frame.at] at this
      | succ m =>
        refine ⟨m + 1, ?_⟩
        simp only [runN] at hm ⊢
        rw [step_loop] at hm
        rw [step_inLoop]; exact hm
    | panicked ch => obtain ⟨v, _, _, he, _⟩ := z; cases he
    | outgrown => obtain ⟨v, _, _, he, _⟩ := z; cases he

theorem Run.cond {c : Operand} {x y : EC} {t : Bool} (hc : get l c = some (.bool t)) (h1 : t = true → Run P f n F (.code x :: K) l H R) (h2 : t = false → Run P f n F (.code y :: K) l H R) :
    Run P f n F (.code (.cond c x y) :: K) l H R := by
  intro K' w0 w h a i q fw fa k
  cases i with
  | code hcc i =>
    obtain ⟨x', y', rfl, hx, hy⟩ := compile_inv hcc
    refine Goes.cond (fa.agrees _ _ hc) ?_
    cases t with
    | true => exact h1 rfl _ _ _ _ _ (.code hx i) q fw fa k
    | false => exact h2 rfl _ _ _ _ _ (.code hy i) q fw fa k

theorem Run.exit {id : Nat} {K2 : List EI} (he : exitE id K = some K2) (r : Run P f n F K2 l H R) : Run P f n F (.code (.exit id) :: K) l H R := by
  intro K' w0 w h a i q fw fa k
  cases i with
  | code hc i =>
    have := compile_inv hc; simp only at this; subst this
    obtain ⟨K2', h1, h2⟩ := exitE_sound i he
    exact Goes.exit h1 (r _ _ _ _ _ h2 q fw fa k)

theorem closed_run : Closed fun l' H' => Run P f n F K l' H' R := fun _ _ _ e r K' w0 w h a i q fw fa k => r K' w0 w h a i (e h q) fw fa k

theorem Run.reg {segs : List (List EG)} (s : Segs P F segs l H fun l' H' => Run P f n F K l' H' R) : Run P f n F (.code (.reg segs) :: K) l H R := by
  intro K' w0 w h a i q fw fa k
  cases i with
  | code hc i =>
    obtain ⟨id, ops, draw, rfl, hr⟩ := compile_inv hc
    exact reg_goes hr (w0 := w0) (fun l l' H e x => x.eq e) closed_run (fun l' H' a' w' h' c fa' q' fw' k' => c _ w0 w' h' a' i q' fw' fa' k') s fa q fw k

/-- what is owned may be put otherwise -/
theorem Run.conseq {H' : List HA} (e : ∀ h, seps H h → seps H' h) (r : Run P f n F K l H' R) : Run P f n F K l H R :=
  fun K' w0 w h a i q fw fa k => r K' w0 w h a i (e h q) fw fa k

/-- a named group is opened -/
theorem Run.open_ {I : List HA → Prop} {H' : List HA} (s : Sel H (grp I) H') (r : ∀ G, I G → Run P f n F K l (G ++ H') R) : Run P f n F K l H R := by
  intro K' w0 w h a i q fw fa k
  obtain ⟨x, y, sp, hx, hy⟩ := s.sound q
  obtain ⟨G, hG, qG⟩ := hx
  exact r G hG K' w0 w h a i (seps_append.2 ⟨x, y, sp, qG, hy⟩) fw fa k

end

/-- the values of the results' variables -/
inductive RV (P : Program) (F : Hp) (l : Fr) (H : List HA) : List ResultVar → List Value → Prop where
  | nil : RV P F l H [] []
  | tmp {t v rs vs} : look l t = some v → RV P F l H rs vs → RV P F l H (.tmp t :: rs) (v :: vs)
  | cell1 {a b o L T' fz T v rs vs} : look l a = some (.pointer (some ⟨b, o, none⟩)) → aggOf P T = some false → (HA.pt b (.cells (List.toArray L) T' fz) ∈ H ∨ F b = some (.cells (List.toArray L) T' fz)) → L[o]? = some v → RV P F l H rs vs →
      RV P F l H (.cell a T :: rs) (v :: vs)
  | celln {a b o L T' fz T i rs vs} : look l a = some (.pointer (some ⟨b, o, none⟩)) → aggOf P T = some true → P.info? T = some i → (HA.pt b (.cells (List.toArray L) T' fz) ∈ H ∨ F b = some (.cells (List.toArray L) T' fz)) → o + i.size ≤ L.length → RV P F l H rs vs →
      RV P F l H (.cell a T :: rs) (.agg ((L.drop o).take i.size).toArray :: vs)

def outOf : List Value → Value
  | [v] => v
  | vs => .tuple vs.toArray

theorem RV.run {P : Program} {F : Hp} {l : Fr} {H : List HA} {fn : Func} {rs : List ResultVar} {vs : List Value} (hfn : fn.results = rs.toArray) (r : RV P F l H rs vs) {n : Nat} {w : World} {h : Hp} {a : Act}
    (q : seps H h) (fw : Fits F h w) (fa : FrOk n l a) : (results fn a.tmps).run P w = .ok (outOf vs) w := by
  have known : ∀ {b : Nat} {L : List Value} {T' : TypeId} {fz : Nat × Nat}, (HA.pt b (.cells L.toArray T' fz) ∈ H ∨ F b = some (.cells L.toArray T' fz)) → w.heap[b]? = some (.cells L.toArray T' fz) := by
    intro b L T' fz hm
    rcases hm with hm | hm
    · exact fw.own _ _ (seps_mem_pt hm q)
    · exact fw.frm _ _ hm
  have key : ∀ (rs : List ResultVar) (vs : List Value), RV P F l H rs vs → ∀ acc : Array Value,
      (rs.foldlM (fun (bs : Array Value) r => bs.push <$> (match r with
        | .tmp t => pure (a.tmps.getD t undef)
        | .cell x t => do loadVar t (← asAddr (a.tmps.getD x undef)) : Sem Value)) acc : Sem _).run P w = .ok (acc ++ vs.toArray) w := by
    intro rs vs r
    induction r with
    | nil => intro acc; simp
    | @tmp t v rs vs hl _ ih =>
      intro acc
      have ht : a.tmps.getD t undef = v := by simp [Array.getD_eq_getD_getElem?, fa.has t v hl]
      rw [List.foldlM_cons, run_bind_ok (a := acc.push v) (w' := w)]
      · rw [ih]; simp
      · simp only [ht]; exact (run_bind_ok (f := fun x => pure (acc.push x)) (x := pure v) rfl).trans rfl
    | @cell1 x b o L T' fz T v rs vs hl ha hm hv _ ih =>
      intro acc
      have ht : a.tmps.getD x undef = .pointer (some ⟨b, o, none⟩) := by simp [Array.getD_eq_getD_getElem?, fa.has x _ hl]
      have hrun : (do loadVar T (← asAddr (a.tmps.getD x undef)) : Sem Value).run P w = .ok v w := by
        rw [ht]
        simp only [asAddr]
        rw [run_bind]; simp only [run_pure']
        unfold loadVar
        rw [run_bind_ok (run_isAgg ha)]
        exact run_load (known hm) hv
      rw [List.foldlM_cons, run_bind_ok (a := acc.push v) (w' := w)]
      · rw [ih]; simp
      · exact (run_bind_ok (f := fun x => pure (acc.push x)) hrun).trans rfl
    | @celln x b o L T' fz T i rs vs hl ha hi hm hv _ ih =>
      intro acc
      have ht : a.tmps.getD x undef = .pointer (some ⟨b, o, none⟩) := by simp [Array.getD_eq_getD_getElem?, fa.has x _ hl]
      have hrun : (do loadVar T (← asAddr (a.tmps.getD x undef)) : Sem Value).run P w = .ok (.agg ((L.drop o).take i.size).toArray) w := by
        rw [ht]
        simp only [asAddr]
        rw [run_bind]; simp only [run_pure']
        unfold loadVar
        rw [run_bind_ok (run_isAgg ha)]
        simp only [if_true]
        rw [run_bind_ok (run_sizeOf hi), run_bind_ok (run_loadCells (known hm) hv)]; rfl
      rw [List.foldlM_cons, run_bind_ok (a := acc.push (.agg ((L.drop o).take i.size).toArray)) (w' := w)]
      · rw [ih]; simp
      · exact (run_bind_ok (f := fun x => pure (acc.push x)) hrun).trans rfl
  unfold results
  have hm : (fn.results.mapM (fun r => (match r with
        | .tmp t => pure (a.tmps.getD t undef)
        | .cell x t => do loadVar t (← asAddr (a.tmps.getD x undef)) : Sem Value))).run P w = .ok vs.toArray w := by
    rw [hfn, Array.mapM_eq_foldlM, ← Array.foldlM_toList]
    have := key rs vs r #[]
    simpa using this
  refine (run_bind_ok (by exact hm)).trans ?_
  simp only [run_pure']
  congr 1
  match vs with
  | [] => rfl
  | [v] => rfl
  | v :: u :: vs => simp [outOf]

section
variable {P : Program} {f : FuncId} {n : Nat} {F : Hp} {K : List EI} {l : Fr} {H : List HA} {R : Value → List HA → Prop}

theorem Run.ret {fn : Func} {rs : List ResultVar} {vs : List Value} {H' : List HA} (hf : P.funcs[f]? = some fn) (hfn : fn.results = rs.toArray) (hv : RV P F l H rs vs) (hH : ∀ h, seps H h → seps H' h) (hR : R (outOf vs) H') :
    Run P f n F (.code .ret :: K) l H R := by
  intro K' w0 w h a i q fw fa k
  cases i with
  | code hc i =>
    have := compile_inv hc; simp only at this; subst this
    exact Goes.ret hf fa.defers (hv.run hfn q fw fa) ⟨_, H', h, rfl, hR, hH h q, fw, k⟩

theorem Run.done {fn : Func} {rs : List ResultVar} {vs : List Value} {H' : List HA} (hf : P.funcs[f]? = some fn) (hfn : fn.results = rs.toArray) (hv : RV P F l H rs vs) (hH : ∀ h, seps H h → seps H' h) (hR : R (outOf vs) H') :
    Run P f n F [] l H R := by
  intro K' w0 w h a i q fw fa k
  cases i with
  | nil => exact Goes.end_ hf fa.defers (hv.run hfn q fw fa) ⟨_, H', h, rfl, hR, hH h q, fw, k⟩

def argFr : Nat → List Value → Fr
  | _, [] => []
  | i, v :: r => (i, v) :: argFr (i + 1) r

theorem look_argFr : ∀ (vs : List Value) (i t : Nat) (v : Value), look (argFr i vs) t = some v → i ≤ t ∧ vs[t - i]? = some v := by
  intro vs
  induction vs with
  | nil => intro i t v h; cases h
  | cons x vs ih =>
    intro i t v h
    simp only [argFr, look_cons] at h
    split at h
    · rename_i e; subst e; simpa using h
    · rename_i e
      have ⟨h1, h2⟩ := ih (i + 1) t v h
      refine ⟨by omega, ?_⟩
      rw [show t - i = (t - (i + 1)) + 1 from by omega]; simpa using h2

def compileFn (P : Program) (fn : Func) : Option EC := match fn.body with
  | some c => compile P fn.ntmps c
  | none => none

/-- A contract by a run of the body. -/
theorem Spec.enter {fn : Func} {ec : EC} {args : List Value} {Pre : List HA} (hf : P.funcs[f]? = some fn) (hc : compileFn P fn = some ec) (hn : fn.ntmps = n) (hs : args.length ≤ n)
    (r : Run P f n F [.code ec] (argFr 0 args) Pre R) : Spec P f args.toArray F Pre R := by
  intro w h q fw
  unfold compileFn at hc
  split at hc
  · rename_i c hb
    subst hn
    refine Calls.mono (calls_of_goes hf hb (r _ w w h _ (.code hc .nil) q fw ?_ (Keeps.refl w))) fun _ _ z => z
    refine ⟨rfl, by simp; omega, fun t v e => ?_⟩
    have ⟨_, h2⟩ := look_argFr args 0 t v e
    simp only [Nat.sub_zero] at h2
    have hlt : t < args.length := by
      rcases Nat.lt_or_ge t args.length with h3 | h3
      · exact h3
      · rw [List.getElem?_eq_none h3] at h2; cases h2
    rw [Array.getElem?_append_left (by simpa using hlt)]
    simpa using h2
  · cases hc
end
end Eng
end Go.Proofs.YtnfomoeicgdkkaaGreatDoor

/- The rules by which a run is stepped through. -/
set_option linter.unusedSimpArgs false
set_option linter.unusedVariables false
namespace Go.Proofs.YtnfomoeicgdkkaaGreatDoor
namespace Eng

def putD (d : Option Nat) (l : Fr) (v : Value) : Fr := match d with
  | some d => (d, v) :: l
  | none => l

theorem put_mk {i : Nat} {d : Option Nat} {g : Option (Nat × Bool)} {c : Bool} {op : EOp} (l : Fr) (v : Value) : (EG.mk i d g c op).put l v = putD d l v := by
  cases d <;> rfl

def pickV (t : Bool) (x y : Value) : Value := match x, y with
  | .bool p, .bool q => .bool (bif t then p else q)
  | x, y => if t then x else y

theorem pickV_eq (t : Bool) (x y : Value) : pickV t x y = if t then x else y := by
  unfold pickV; split
  · cases t <;> rfl
  · rfl

/-- the value of an operation that asks nothing of the world -/
def pv (l : Fr) : EOp → Option Value
  | .mv x => get l x
  | .pick c a b => match get l c, get l a, get l b with
    | some (.bool t), some x, some y => some (pickV t x y)
    | _, _, _ => none
  | .nilc x => match get l x with
    | some (.pointer (some a)) => some (.pointer (some a))
    | _ => none
  | .off x k => match get l x with
    | some (.pointer (some ⟨b, o, none⟩)) => some (.pointer (some ⟨b, o + k, none⟩))
    | _ => none
  | .bin op x y => match get l x, get l y with
    | some a, some b => binVal op a b
    | _, _ => none
  | .eqv d neg x y => match get l x, get l y with
    | some a, some b => match eqVal d a b with
      | some t => some (.bool (if neg then !t else t))
      | none => none
    | _, _ => none
  | .un op x => match get l x with
    | some a => unVal op a
    | none => none
  | .cvI k x => match get l x with
    | some (.int _ n) => some (.int k (k.wrap n))
    | _ => none
  | .cvSS x => match get l x with
    | some (.string s) => some (.string s)
    | _ => none
  | .len x => match get l x with
    | some (.slice _ n _) => some (.int .i64 n)
    | _ => none
  | .lenT x => match get l x with
    | some (.string s) => some (.int .i64 s.size)
    | _ => none
  | .fld x o none => match get l x with
    | some (.agg ⟨cs⟩) => cs[o]?
    | _ => none
  | .fld x o (some n) => match get l x with
    | some (.agg ⟨cs⟩) => some (.agg ((cs.drop o).take n).toArray)
    | _ => none
  | .ext x i => match get l x with
    | some (.tuple ⟨vs⟩) => vs[i]?
    | _ => none
  | .mx2 x y => match get l x, get l y with
    | some (.int k a), some (.int _ b) => some (.int k (if b > a then b else a))
    | _, _ => none
  | .mn2 x y => match get l x, get l y with
    | some (.int k a), some (.int _ b) => some (.int k (if b < a then b else a))
    | _, _ => none
  | .mki T x => match get l x with
    | some v => some (.iface T v)
    | none => none
  | _ => none

theorem pv_sound {P : Program} {l : Fr} {op : EOp} {v : Value} (h : pv l op = some v) {ρ : Operand → Value} (a : Agrees l ρ) {w : World} {Q : Next → World → Prop} (q : Q (.value v) w) : op.wp P ρ w Q := by
  cases op <;> simp only [pv] at h
  case mv x => simp only [EOp.wp]; rw [a _ _ h]; exact q
  case pick c x y =>
    split at h
    · rename_i t x' y' h1 h2 h3
      cases h
      rw [pickV_eq] at q
      exact ⟨t, a _ _ h1, by rw [a _ _ h2, a _ _ h3]; exact q⟩
    · cases h
  case nilc x =>
    split at h
    · rename_i b h1; cases h; exact ⟨b, a _ _ h1, q⟩
    · cases h
  case off x k =>
    split at h
    · rename_i b o h1; cases h; exact ⟨_, a _ _ h1, by rw [add_mk]; exact q⟩
    · cases h
  case bin op x y =>
    split at h
    · rename_i b c h1 h2; exact ⟨v, by rw [a _ _ h1, a _ _ h2]; exact h, q⟩
    · cases h
  case eqv d neg x y =>
    split at h
    · rename_i b c h1 h2
      split at h
      · rename_i t h3; cases h; exact ⟨t, by rw [a _ _ h1, a _ _ h2]; exact h3, q⟩
      · cases h
    · cases h
  case un op x =>
    split at h
    · rename_i b h1; exact ⟨v, by rw [a _ _ h1]; exact h, q⟩
    · cases h
  case cvI k x =>
    split at h
    · rename_i k' n h1; cases h; exact ⟨k', n, a _ _ h1, q⟩
    · cases h
  case cvSS x =>
    split at h
    · rename_i n h1; cases h; exact ⟨n, a _ _ h1, q⟩
    · cases h
  case len x =>
    split at h
    · rename_i b n c h1; cases h; exact ⟨b, n, c, a _ _ h1, q⟩
    · cases h
  case lenT x =>
    split at h
    · rename_i b h1; cases h; exact ⟨b, a _ _ h1, q⟩
    · cases h
  case fld x o n =>
    cases n with
    | none =>
      simp only at h
      split at h
      · rename_i cs h1; exact ⟨cs, a _ _ h1, v, h, q⟩
      · cases h
    | some n =>
      simp only at h
      split at h
      · rename_i cs h1; cases h; exact ⟨cs, a _ _ h1, q⟩
      · cases h
  case ext x i =>
    split at h
    · rename_i vs h1; exact ⟨⟨vs⟩, v, a _ _ h1, by simpa using h, q⟩
    · cases h
  case mx2 x y =>
    split at h
    · rename_i k b k' c h1 h2; cases h; exact ⟨k, k', b, c, a _ _ h1, a _ _ h2, q⟩
    · cases h
  case mn2 x y =>
    split at h
    · rename_i k b k' c h1 h2; cases h; exact ⟨k, k', b, c, a _ _ h1, a _ _ h2, q⟩
    · cases h
  case mki T x =>
    split at h
    · rename_i b h1; cases h; simp only [EOp.wp]; rw [a _ _ h1]; exact q
    · cases h
  all_goals cases h

section
variable {P : Program} {F : Hp} {l : Fr} {H : List HA} {C : Fr → List HA → Prop} {es : List EG} {i d : Nat} {c : Bool} {op : EOp}

theorem Segs.nil (h : C l H) : Segs P F [] l H C := h
theorem Segs.one {r : List (List EG)} (h : Ops P F es l H fun l' H' => Segs P F r l' H' C) : Segs P F (es :: r) l H C := .inl h
theorem Segs.lend {r : List (List EG)} (S : List HA) {M : List HA} (t : Take H S M) (h : ∀ F', Ext F F' → Known S F' → Ops P F' es l M fun l' M' => Segs P F r l' (S ++ M') C) : Segs P F (es :: r) l H C :=
  .inr ⟨S, M, fun _ q => t.sound q, h⟩
/-- the same where what is owned is first put otherwise -/
theorem Segs.lendE {r : List (List EG)} (S M : List HA) (t : ∀ h, seps H h → seps (S ++ M) h) (h : ∀ F', Ext F F' → Known S F' → Ops P F' es l M fun l' M' => Segs P F r l' (S ++ M') C) : Segs P F (es :: r) l H C :=
  .inr ⟨S, M, t, h⟩
theorem Ops.nil (h : C l H) : Ops P F [] l H C := h

theorem Fits.weak {F F' h : Hp} {w : World} (f : Fits F' h w) (e : Ext F F') : Fits F h w := by
  refine ⟨fun n => (f.dis n).imp id fun x => ?_, f.own, fun n o x => f.frm n o (e n o x)⟩
  cases hF : F n with
  | none => rfl
  | some o => rw [e n o hF] at x; cases x

/-- an operation of which it is known what it gives, in whatever world -/
theorem Ops.any {v : Value} (hv : ∀ ρ w (Q : Next → World → Prop), Agrees l ρ → (∀ b o, F b = some o → w.heap[b]? = some o) → Q (.value v) w → op.wp P ρ w Q) (k : Ops P F es ((d, v) :: l) H C) (hk : freshKind op = false := by rfl) : Ops P F (EG.mk i (some d) none c op :: es) l H C := by
  rw [Ops.cons_eq]
  show Body P F (EG.mk i (some d) none c op) l H _
  unfold Body
  simp only [put_mk, putD, hk, Bool.false_eq_true, if_false]
  cases c with
  | true => exact ⟨v, fun w ρ a f => hv ρ w _ a f ⟨rfl, rfl⟩, k⟩
  | false => exact ⟨fun v' H' => v' = v ∧ H' = H, fun F' e w h ρ a q f => hv ρ w _ a (f.weak e).frm ⟨H, h, ⟨rfl, rfl⟩, q, f, Keeps.refl w⟩, fun v' H' ⟨e1, e2⟩ => by subst e1; subst e2; exact k⟩

theorem pv_kind {op : EOp} {v : Value} (h : pv l op = some v) : freshKind op = false := by
  cases op <;> first | rfl | (simp [pv] at h; done)

/-- a block is laid -/
theorem Ops.fresh {mk : Nat → Value} {o : Obj} (h : ∀ ρ, Agrees l ρ → freshRun ρ op = some (mk, o)) (k : ∀ b, Ops P F es ((d, mk b) :: l) (.pt b o :: H) C) : Ops P F (EG.mk i (some d) none false op :: es) l H C := by
  have hk : freshKind op = true := fresh_kind (h (ofFr l) (ofFr_agrees l))
  rw [Ops.cons_eq, One.fresh hk rfl rfl]
  exact ⟨mk, o, h, k⟩

theorem Ops.p {v : Value} (h : pv l op = some v) (k : Ops P F es ((d, v) :: l) H C) : Ops P F (EG.mk i (some d) none c op :: es) l H C :=
  Ops.any (fun _ _ _ a _ q => pv_sound h a q) k (pv_kind h)

/-- the same with the value put otherwise -/
theorem Ops.pE {v v' : Value} (h : pv l op = some v) (e : v = v') (k : Ops P F es ((d, v') :: l) H C) : Ops P F (EG.mk i (some d) none c op :: es) l H C := by
  subst e; exact Ops.p h k

theorem wrap_i64 {n : Int} (h1 : -9223372036854775808 ≤ n) (h2 : n < 9223372036854775808) : IntKind.i64.wrap n = n := by
  unfold IntKind.wrap; simp [IntKind.bits, IntKind.signed]; omega
theorem wrap_u8 {n : Int} (h1 : 0 ≤ n) (h2 : n < 256) : IntKind.u8.wrap n = n := by
  unfold IntKind.wrap; simp [IntKind.bits, IntKind.signed]; omega
theorem wrap_u32 {n : Int} (h1 : 0 ≤ n) (h2 : n < 4294967296) : IntKind.u32.wrap n = n := by
  unfold IntKind.wrap; simp [IntKind.bits, IntKind.signed]; omega
theorem wrap_u64 {n : Int} (h1 : 0 ≤ n) (h2 : n < 18446744073709551616) : IntKind.u64.wrap n = n := by
  unfold IntKind.wrap; simp [IntKind.bits, IntKind.signed]; omega

theorem Ops.add {x y : Operand} {a b : Int} (hx : get l x = some (.int .i64 a)) (hy : get l y = some (.int .i64 b)) (h : -9223372036854775808 ≤ a + b ∧ a + b < 9223372036854775808) (k : Ops P F es ((d, .int .i64 (a + b)) :: l) H C) :
    Ops P F (EG.mk i (some d) none c (.bin .add x y) :: es) l H C :=
  Ops.pE (v := .int .i64 (IntKind.i64.wrap (a + b))) (by simp only [pv, hx, hy, binVal, if_true]) (by rw [wrap_i64 h.1 h.2]) k
theorem Ops.sub {x y : Operand} {a b : Int} (hx : get l x = some (.int .i64 a)) (hy : get l y = some (.int .i64 b)) (h : -9223372036854775808 ≤ a - b ∧ a - b < 9223372036854775808) (k : Ops P F es ((d, .int .i64 (a - b)) :: l) H C) :
    Ops P F (EG.mk i (some d) none c (.bin .sub x y) :: es) l H C :=
  Ops.pE (v := .int .i64 (IntKind.i64.wrap (a - b))) (by simp only [pv, hx, hy, binVal, if_true]) (by rw [wrap_i64 h.1 h.2]) k
theorem Ops.mul {x y : Operand} {a b : Int} (hx : get l x = some (.int .i64 a)) (hy : get l y = some (.int .i64 b)) (h : -9223372036854775808 ≤ a * b ∧ a * b < 9223372036854775808) (k : Ops P F es ((d, .int .i64 (a * b)) :: l) H C) :
    Ops P F (EG.mk i (some d) none c (.bin .mul x y) :: es) l H C :=
  Ops.pE (v := .int .i64 (IntKind.i64.wrap (a * b))) (by simp only [pv, hx, hy, binVal, if_true]) (by rw [wrap_i64 h.1 h.2]) k

/-- an operation that owns what it turns -/
theorem Ops.busy {dd : Option Nat} {R : Value → List HA → Prop} (hb : BusyAt P F op l H R) (k : ∀ v H', R v H' → Ops P F es (putD dd l v) H' C) (hk : freshKind op = false := by rfl) : Ops P F (EG.mk i dd none false op :: es) l H C := by
  rw [Ops.cons_eq]
  show Body P F (EG.mk i dd none false op) l H _
  unfold Body
  simp only [put_mk, hk, Bool.false_eq_true, if_false]
  exact ⟨R, hb, k⟩

theorem Ops.gy {dd : Option Nat} {s : Nat} {want : Bool} {v : Value} (hl : look l s = some v) (hv : asB v = some want) (k : Ops P F (EG.mk i dd none c op :: es) l H C) : Ops P F (EG.mk i dd (some (s, want)) c op :: es) l H C := by
  rw [Ops.cons_eq] at k ⊢
  exact ⟨v, hl, fun _ => by simpa only [One, Body, put_mk] using k, fun x => absurd hv x⟩
theorem Ops.gn {dd : Option Nat} {s : Nat} {want : Bool} {v : Value} (hl : look l s = some v) (hv : asB v ≠ some want) (k : Ops P F es (putD dd l undef) H C) : Ops P F (EG.mk i dd (some (s, want)) c op :: es) l H C := by
  rw [Ops.cons_eq]
  exact ⟨v, hl, fun x => absurd x hv, fun _ => by simpa only [put_mk] using k⟩

theorem Ops.ldF {x : Operand} {b o : Nat} {L : List Value} {T : TypeId} {fz : Nat × Nat} {v : Value} (hx : get l x = some (.pointer (some ⟨b, o, none⟩))) (hF : F b = some (.cells L.toArray T fz)) (hv : L[o]? = some v)
    (k : Ops P F es ((d, v) :: l) H C) : Ops P F (EG.mk i (some d) none c (.ld1 x) :: es) l H C :=
  Ops.any (fun _ _ _ a f q => ⟨b, o, L, T, fz, v, a _ _ hx, f _ _ hF, hv, q⟩) k

theorem Ops.ldnF {x : Operand} {b o n : Nat} {L : List Value} {T : TypeId} {fz : Nat × Nat} (hx : get l x = some (.pointer (some ⟨b, o, none⟩))) (hF : F b = some (.cells L.toArray T fz)) (hv : o + n ≤ L.length)
    (k : Ops P F es ((d, .agg ((L.drop o).take n).toArray) :: l) H C) : Ops P F (EG.mk i (some d) none c (.ldn x n) :: es) l H C :=
  Ops.any (fun _ _ _ a f q => ⟨b, o, L, T, fz, a _ _ hx, f _ _ hF, hv, q⟩) k

/-- an operation that only reads what is owned -/
theorem Ops.reads {v : Value} (hv : ∀ ρ w h (Q : Next → World → Prop), Agrees l ρ → seps H h → Fits F h w → Q (.value v) w → op.wp P ρ w Q) (k : Ops P F es ((d, v) :: l) H C) (hk : freshKind op = false := by rfl) : Ops P F (EG.mk i (some d) none false op :: es) l H C :=
  Ops.busy (R := fun v' H' => v' = v ∧ H' = H) (fun F' e w h ρ a q f => hv ρ w h _ a q (f.weak e) ⟨H, h, ⟨rfl, rfl⟩, q, f, Keeps.refl w⟩) (fun v' H' ⟨e1, e2⟩ => by subst e1; subst e2; exact k) hk

theorem Ops.ld {x : Operand} {b o : Nat} {L : List Value} {T : TypeId} {fz : Nat × Nat} {v : Value} (hx : get l x = some (.pointer (some ⟨b, o, none⟩))) (m : HA.pt b (.cells L.toArray T fz) ∈ H) (hv : L[o]? = some v)
    (k : Ops P F es ((d, v) :: l) H C) : Ops P F (EG.mk i (some d) none false (.ld1 x) :: es) l H C :=
  Ops.reads (fun _ _ _ _ a q f r => ⟨b, o, L, T, fz, v, a _ _ hx, f.own _ _ (seps_mem_pt m q), hv, r⟩) k

theorem Ops.ldn {x : Operand} {b o n : Nat} {L : List Value} {T : TypeId} {fz : Nat × Nat} (hx : get l x = some (.pointer (some ⟨b, o, none⟩))) (m : HA.pt b (.cells L.toArray T fz) ∈ H) (hv : o + n ≤ L.length)
    (k : Ops P F es ((d, .agg ((L.drop o).take n).toArray) :: l) H C) : Ops P F (EG.mk i (some d) none false (.ldn x n) :: es) l H C :=
  Ops.reads (fun _ _ _ _ a q f r => ⟨b, o, L, T, fz, a _ _ hx, f.own _ _ (seps_mem_pt m q), hv, r⟩) k

theorem nofz (j : Nat) : (decide ((0, 0).1 ≤ j) && decide (j < (0, 0).2)) = false := by simp

theorem Ops.stn {dd : Option Nat} {x y : Operand} {b o n : Nat} {L vs : List Value} {T : TypeId} {v : Value} {H' : List HA} (hx : get l x = some (.pointer (some ⟨b, o, none⟩))) (hy : get l y = some v) (hvs : vcells v = vs) (hn : vs.length = n) (h1 : oneCells vs)
    (u : Upd H (.pt b (.cells L.toArray T (0, 0))) (.pt b (.cells (L.take o ++ vs ++ L.drop (o + n)).toArray T (0, 0))) H') (hl : o + n ≤ L.length) (h0 : vs ≠ [])
    (k : Ops P F es (putD dd l undef) H' C) : Ops P F (EG.mk i dd none false (.st x y n) :: es) l H C :=
  Ops.busy (R := fun v' H2 => v' = undef ∧ H2 = H')
    (fun F' ex w h ρ a q f => ⟨b, o, L, T, (0, 0), vs, a _ _ hx, f.own _ _ (seps_mem_pt u.mem q), by rw [a _ _ hy]; exact hvs, hn, h0, h1, hl, fun j _ _ => nofz j,
      ⟨H', _, ⟨rfl, rfl⟩, seps_upd u q, f.set (seps_mem_pt u.mem q), Keeps.setBlk w b _⟩⟩)
    fun v' H2 ⟨e1, e2⟩ => by subst e1; subst e2; exact k

theorem Ops.st {dd : Option Nat} {x y : Operand} {b o : Nat} {L : List Value} {T : TypeId} {v : Value} {H' : List HA} (hx : get l x = some (.pointer (some ⟨b, o, none⟩))) (hy : get l y = some v) (hvs : vcells v = [v]) (h1 : one v = true)
    (u : Upd H (.pt b (.cells L.toArray T (0, 0))) (.pt b (.cells (L.set o v).toArray T (0, 0))) H') (hl : o < L.length)
    (k : Ops P F es (putD dd l undef) H' C) : Ops P F (EG.mk i dd none false (.st x y 1) :: es) l H C := by
  refine Ops.stn hx hy hvs rfl (fun z hz => by simp at hz; subst hz; exact h1) (L := L) (o := o) (b := b) (T := T) (H' := H') ?_ hl (by simp) k
  have : L.take o ++ [v] ++ L.drop (o + 1) = L.set o v := by
    rw [List.set_eq_take_append_cons_drop, if_pos hl]; simp
  rw [this]; exact u

theorem Ops.box {x : Operand} {T : TypeId} {v : Value} {vs : List Value} (hx : get l x = some v) (hvs : vcells v = vs) (k : ∀ b, Ops P F es ((d, .pointer (some ⟨b, 0, none⟩)) :: l) (.pt b (.cells vs.toArray T (0, 0)) :: H) C) :
    Ops P F (EG.mk i (some d) none false (.box x T) :: es) l H C :=
  Ops.fresh (fun ρ a => by simp only [freshRun]; rw [a _ _ hx, hvs]) k

theorem Ops.alloc {z : List Value} {T : TypeId} (k : ∀ b, Ops P F es ((d, .pointer (some ⟨b, 0, none⟩)) :: l) (.pt b (.cells z.toArray T (0, 0)) :: H) C) :
    Ops P F (EG.mk i (some d) none false (.alloc z T) :: es) l H C :=
  Ops.fresh (fun _ _ => rfl) k

def getL (l : Fr) (xs : List Operand) : Option (List Value) := match xs with
  | [] => some []
  | x :: r => match get l x, getL l r with
    | some v, some vs => some (v :: vs)
    | _, _ => none

theorem getL_sound {l : Fr} {ρ : Operand → Value} (a : Agrees l ρ) : ∀ {xs : List Operand} {vs : List Value}, getL l xs = some vs → xs.map ρ = vs := by
  intro xs
  induction xs with
  | nil => intro vs h; cases h; rfl
  | cons x r ih =>
    intro vs h
    simp only [getL] at h
    split at h
    · rename_i v vs' h1 h2; cases h; rw [List.map_cons, a _ _ h1, ih h2]
    · cases h

theorem Ops.call {dd : Option Nat} {g : FuncId} {args : List Operand} {vs : List Value} {Pre Rest : List HA} {R : Value → List HA → Prop} (ha : getL l args = some vs) (t : Take H Pre Rest)
    (sp : ∀ F', Ext F F' → Known Rest F' → Spec P g vs.toArray F' Pre R) (k : ∀ v G, R v G → Ops P F es (putD dd l v) (G ++ Rest) C) :
    Ops P F (EG.mk i dd none false (.call g args.toArray) :: es) l H C :=
  Ops.busy (R := fun v H' => ∃ G, R v G ∧ H' = G ++ Rest)
    (fun F' ex w h ρ a q f => by
      simp only [EOp.wp]
      have : args.toArray.map ρ = vs.toArray := by rw [← getL_sound a ha]; simp
      rw [this]
      refine (Spec.frame t (fun F2 e k => sp F2 (ex.trans e) k) w h q f).mono ?_
      rintro e w' ⟨v, H', h', he, r, q', f', kp⟩
      exact ⟨v, H', h', he, r, q', f', kp⟩)
    fun v H' ⟨G, r, e⟩ => by subst e; exact k v G r

/-- an index within a slice -/
theorem Ops.ixS {x y : Operand} {s : Nat} {b o n cp : Nat} {kk : IntKind} {j : Int} (hx : get l x = some (.slice (some ⟨b, o, none⟩) n cp)) (hy : get l y = some (.int kk j)) (h : 0 ≤ j ∧ j < (n : Int))
    (k : Ops P F es ((d, .pointer (some ⟨b, o + j.toNat * s, none⟩)) :: l) H C) : Ops P F (EG.mk i (some d) none c (.ixS x y s) :: es) l H C :=
  Ops.any (fun _ _ _ a _ q => ⟨_, n, cp, kk, j, a _ _ hx, a _ _ hy, h.1, h.2, by rw [add_mk]; exact q⟩) k

theorem Ops.ixA {x y : Operand} {n s : Nat} {b o : Nat} {kk : IntKind} {j : Int} (hx : get l x = some (.pointer (some ⟨b, o, none⟩))) (hy : get l y = some (.int kk j)) (h : 0 ≤ j ∧ j < (n : Int))
    (k : Ops P F es ((d, .pointer (some ⟨b, o + j.toNat * s, none⟩)) :: l) H C) : Ops P F (EG.mk i (some d) none c (.ixA x y n s) :: es) l H C :=
  Ops.any (fun _ _ _ a _ q => ⟨_, kk, j, a _ _ hx, a _ _ hy, h.1, h.2, by rw [add_mk]; exact q⟩) k

theorem Ops.build {z : List Value} {parts : List (Nat × Nat × Operand)} {ps : List (Nat × Nat × Value)} {cs : List Value} (hp : ∀ ρ, Agrees l ρ → parts.map (fun p => (p.1, p.2.1, ρ p.2.2)) = ps) (hb : buildL z ps = some cs)
    (k : Ops P F es ((d, .agg cs.toArray) :: l) H C) : Ops P F (EG.mk i (some d) none c (.build z parts) :: es) l H C :=
  Ops.any (fun ρ _ _ a _ q => ⟨cs, by rw [hp ρ a]; exact hb, q⟩) k

theorem Ops.bsl {T : TypeId} {z : List Value} {n : Nat} {parts : List (Nat × Nat × Operand)} {ps : List (Nat × Nat × Value)} {cs : List Value} (hp : ∀ ρ, Agrees l ρ → parts.map (fun p => (p.1, p.2.1, ρ p.2.2)) = ps) (hb : buildL z ps = some cs)
    (k : ∀ b, Ops P F es ((d, .slice (some ⟨b, 0, none⟩) n n) :: l) (.pt b (.cells cs.toArray T (0, 0)) :: H) C) : Ops P F (EG.mk i (some d) none false (.bsl T z n parts) :: es) l H C :=
  Ops.fresh (fun ρ a => by simp only [freshRun, hp ρ a, hb]) k
end

theorem m0 {x : HA} {H : List HA} : x ∈ x :: H := .head _
theorem m1 {x a : HA} {H : List HA} : x ∈ a :: x :: H := .tail _ (.head _)
theorem m2 {x a b : HA} {H : List HA} : x ∈ a :: b :: x :: H := .tail _ m1
theorem m3 {x a b c : HA} {H : List HA} : x ∈ a :: b :: c :: x :: H := .tail _ m2
theorem m4 {x a b c d : HA} {H : List HA} : x ∈ a :: b :: c :: d :: x :: H := .tail _ m3
theorem m5 {x a b c d e : HA} {H : List HA} : x ∈ a :: b :: c :: d :: e :: x :: H := .tail _ m4
theorem m6 {x a b c d e f : HA} {H : List HA} : x ∈ a :: b :: c :: d :: e :: f :: x :: H := .tail _ m5
theorem u0 {x y : HA} {H : List HA} : Upd (x :: H) x y (y :: H) := .here
theorem u1 {x y a : HA} {H : List HA} : Upd (a :: x :: H) x y (a :: y :: H) := .there u0
theorem u2 {x y a b : HA} {H : List HA} : Upd (a :: b :: x :: H) x y (a :: b :: y :: H) := .there u1
theorem u3 {x y a b c : HA} {H : List HA} : Upd (a :: b :: c :: x :: H) x y (a :: b :: c :: y :: H) := .there u2
theorem u4 {x y a b c d : HA} {H : List HA} : Upd (a :: b :: c :: d :: x :: H) x y (a :: b :: c :: d :: y :: H) := .there u3
theorem u5 {x y a b c d e : HA} {H : List HA} : Upd (a :: b :: c :: d :: e :: x :: H) x y (a :: b :: c :: d :: e :: y :: H) := .there u4
theorem s0 {x : HA} {H : List HA} : Sel (x :: H) x H := .here
theorem s1 {x a : HA} {H : List HA} : Sel (a :: x :: H) x (a :: H) := .there s0
theorem s2 {x a b : HA} {H : List HA} : Sel (a :: b :: x :: H) x (a :: b :: H) := .there s1
theorem s3 {x a b c : HA} {H : List HA} : Sel (a :: b :: c :: x :: H) x (a :: b :: c :: H) := .there s2
theorem s4 {x a b c d : HA} {H : List HA} : Sel (a :: b :: c :: d :: x :: H) x (a :: b :: c :: d :: H) := .there s3
theorem s5 {x a b c d e : HA} {H : List HA} : Sel (a :: b :: c :: d :: e :: x :: H) x (a :: b :: c :: d :: e :: H) := .there s4
theorem s6 {x a b c d e f : HA} {H : List HA} : Sel (a :: b :: c :: d :: e :: f :: x :: H) x (a :: b :: c :: d :: e :: f :: H) := .there s5
theorem s7 {x a b c d e f g : HA} {H : List HA} : Sel (a :: b :: c :: d :: e :: f :: g :: x :: H) x (a :: b :: c :: d :: e :: f :: g :: H) := .there s6

/-- what is owned, the ones named taken out and the rest let go -/
theorem take_sub {H ps R : List HA} (t : Take H ps R) : ∀ h, seps H h → seps ps h := fun h q => by
  obtain ⟨a, b, s, x, _⟩ := seps_append.1 (t.sound q); exact seps_up x s.symm

/-- what is owned closed into a named group -/
theorem fold_grp {H G R : List HA} {I : List HA → Prop} (t : Take H G R) (hI : I G) : ∀ h, seps H h → seps (grp I :: R) h := fun h q => by
  obtain ⟨a, b, s, x, y⟩ := seps_append.1 (t.sound q); exact ⟨a, b, s, ⟨G, hI, x⟩, y⟩

end Eng
end Go.Proofs.YtnfomoeicgdkkaaGreatDoor

/- Slices that grow: owned, with what room they have. -/
set_option linter.unusedSimpArgs false
set_option linter.unusedVariables false
namespace Go.Proofs.YtnfomoeicgdkkaaGreatDoor
namespace Eng

/-- a slice of n elements (s cells each) that owns its array, or a nil one -/
def OwnI (a : Option Addr) (n c s : Nat) (T : TypeId) (xs : List Value) (G : List HA) : Prop :=
  xs.length = n * s ∧ ((a = none ∧ n = 0 ∧ c = 0 ∧ G = []) ∨ ∃ b spare, a = some ⟨b, 0, none⟩ ∧ n ≤ c ∧ (xs ++ spare).length = c * s ∧ G = [.pt b (.cells (xs ++ spare).toArray T (0, 0))])

def OwnS (a : Option Addr) (n c s : Nat) (T : TypeId) (xs : List Value) : HA := grp (OwnI a n c s T xs)

theorem own_nil {s : Nat} {T : TypeId} : OwnI none 0 0 s T [] [] := ⟨by simp, .inl ⟨rfl, rfl, rfl, rfl⟩⟩

theorem shows_pt {F : Hp} {H : List HA} {b o m s c : Nat} {L ys : List Value} {T : TypeId} {fz : Nat × Nat} (m0 : HA.pt b (.cells L.toArray T fz) ∈ H) (hl : o + m * s ≤ L.length) (hy : ys = (L.drop o).take (m * s)) :
    ∀ w h, seps H h → Fits F h w → shows w s m (.slice (some ⟨b, o, none⟩) m c) ys :=
  fun _ _ q f => .inr ⟨rfl, L, T, fz, f.own _ _ (seps_mem_pt m0 q), hl, hy⟩

theorem shows_F {F : Hp} {H : List HA} {b o m s c : Nat} {L ys : List Value} {T : TypeId} {fz : Nat × Nat} (m0 : F b = some (.cells L.toArray T fz)) (hl : o + m * s ≤ L.length) (hy : ys = (L.drop o).take (m * s)) :
    ∀ w h, seps H h → Fits F h w → shows w s m (.slice (some ⟨b, o, none⟩) m c) ys :=
  fun _ _ _ f => .inr ⟨rfl, L, T, fz, f.frm _ _ m0, hl, hy⟩

section
variable {P : Program} {F : Hp} {l : Fr} {H : List HA} {C : Fr → List HA → Prop} {es : List EG} {i d : Nat}

theorem busyApp {x y : Operand} {a : Option Addr} {n c m bytes : Nat} {T : TypeId} {z xs ys : List Value} {u : Value} {H' : List HA} (hx : get l x = some (.slice a n c)) (hy : get l y = some u) (hm : lenV u = some m)
    (own : Sel H (OwnS a n c z.length T xs) H') (sh : ∀ w h, seps H' h → Fits F h w → shows w z.length m u ys) (h1 : oneCells ys) (hlen : ys.length = m * z.length) (hz : 0 < z.length) (hb : (2 * (n + m) + 1024) * bytes ≤ 2 ^ 48) :
    BusyAt P F (.app T z bytes x y) l H fun v M => ∃ a' c', v = .slice a' (n + m) c' ∧ M = OwnS a' (n + m) c' z.length T (xs ++ ys) :: H' := by
  intro F' ex w h ρ ag q f
  obtain ⟨h0, hr, sp, ⟨G, ⟨hxs, hG⟩, qG⟩, qr⟩ := own.sound q
  have hshow := sh w h (seps_up qr sp) (f.weak ex)
  have hadd : (n + m) * z.length = n * z.length + m * z.length := Nat.add_mul _ _ _
  -- a new array
  have grown : ∀ (hroom : ¬ n + m ≤ c) (old : shows w z.length n (ρ x) xs), EOp.wp P ρ w (Post P F' w fun v M => ∃ a' c', v = .slice a' (n + m) c' ∧ M = OwnS a' (n + m) c' z.length T (xs ++ ys) :: H') (.app T z bytes x y) := by
    intro hroom old
    refine ⟨a, n, c, m, ys, ag _ _ hx, by rw [ag _ _ hy]; exact hm, by rw [ag _ _ hy]; exact hshow, ?_⟩
    rw [if_neg hroom]
    refine ⟨xs, old, hb, fun c' hc' => ?_⟩
    have f2 := f.drew.new (.cells (xs ++ ys ++ zerosL z (c' - (n + m))).toArray T (0, 0))
    have hfresh : h w.heap.size = none := f.fresh.1
    refine ⟨_, upd h w.heap.size (.cells (xs ++ ys ++ zerosL z (c' - (n + m))).toArray T (0, 0)), ⟨_, c', rfl, rfl⟩, ?_, f2, ⟨rfl, rfl, rfl, by simp [newBlk]⟩⟩
    obtain ⟨h1', h2', sp', p1, p2⟩ := seps_new (.cells (xs ++ ys ++ zerosL z (c' - (n + m))).toArray T (0, 0)) (seps_up qr sp) hfresh
    have hzl : (zerosL z (c' - (n + m))).length = (c' - (n + m)) * z.length := by
      simp [zerosL]
    refine ⟨h1', h2', sp', ⟨[.pt w.heap.size (.cells (xs ++ ys ++ zerosL z (c' - (n + m))).toArray T (0, 0))], ⟨by simp [hxs, hlen, hadd], .inr ⟨w.heap.size, zerosL z (c' - (n + m)), rfl, hc', ?_, rfl⟩⟩, ?_⟩, p2⟩
    · simp only [List.length_append, hxs, hlen, hzl]
      rw [← hadd, ← Nat.add_mul]; congr 1; omega
    · exact ⟨h1', noHp, ⟨fun _ => .inr rfl, fun n => by simp [noHp]⟩, p1, trivial⟩
  rcases hG with ⟨ha, hn, hc, hG⟩ | ⟨b, spare, ha, hnc, hcap, hG⟩
  · subst ha; subst hn; subst hc; subst hG
    have hxs0 : xs = [] := List.length_eq_zero_iff.1 (by simpa using hxs)
    subst hxs0
    by_cases hroom : 0 + m ≤ 0
    · have hm0 : m = 0 := by omega
      subst hm0
      have hys0 : ys = [] := List.length_eq_zero_iff.1 (by simpa using hlen)
      subst hys0
      refine ⟨none, 0, 0, 0, [], ag _ _ hx, by rw [ag _ _ hy]; exact hm, by rw [ag _ _ hy]; exact hshow, ?_⟩
      rw [if_pos (by omega)]
      exact ⟨_, h, ⟨none, 0, rfl, rfl⟩, ⟨h0, hr, sp, ⟨[], own_nil, trivial⟩, qr⟩, f, Keeps.refl w⟩
    · exact grown hroom (by rw [ag _ _ hx]; simp [shows])
  · subst ha; subst hG
    obtain ⟨g1, g2, sg, hpt, _⟩ := qG
    have hb0 : h0 b = some (.cells (xs ++ spare).toArray T (0, 0)) := sg.left hpt
    have hhb : h b = some (.cells (xs ++ spare).toArray T (0, 0)) := sp.left hb0
    have hwb := f.own _ _ hhb
    by_cases hroom : n + m ≤ c
    · refine ⟨some ⟨b, 0, none⟩, n, c, m, ys, ag _ _ hx, by rw [ag _ _ hy]; exact hm, by rw [ag _ _ hy]; exact hshow, ?_⟩
      rw [if_pos hroom]
      refine ⟨rfl, ?_⟩
      by_cases hys : ys = []
      · rw [if_pos hys]
        subst hys
        have hm0 : m * z.length = 0 := by simpa using hlen.symm
        have : m = 0 := by
          rcases Nat.mul_eq_zero.1 hm0 with e | e
          · exact e
          · omega
        subst this
        exact ⟨_, h, ⟨_, c, rfl, rfl⟩, ⟨h0, hr, sp, ⟨[.pt b (.cells (xs ++ spare).toArray T (0, 0))], ⟨by simpa using hxs, .inr ⟨b, spare, rfl, hroom, by simpa using hcap, by simp⟩⟩, ⟨g1, g2, sg, hpt, trivial⟩⟩, qr⟩, f, Keeps.refl w⟩
      · rw [if_neg hys]
        have hle : n * z.length + m * z.length ≤ c * z.length := by rw [← hadd]; exact Nat.mul_le_mul_right _ hroom
        have hL : (xs ++ spare).length = c * z.length := hcap
        refine ⟨xs ++ spare, T, (0, 0), hwb, h1, by simp only [Nat.zero_add]; rw [hL, hlen]; exact hle, fun j _ _ => nofz j, ?_⟩
        simp only [Nat.zero_add]
        have e1 : (xs ++ spare).take (n * z.length) = xs := by rw [← hxs]; simp
        have e2 : (xs ++ spare).drop (n * z.length + ys.length) = spare.drop ys.length := by rw [← hxs, List.drop_append]; simp
        rw [e1, e2]
        refine ⟨_, _, ⟨_, c, rfl, rfl⟩, ?_, f.set hhb, Keeps.setBlk w b _⟩
        refine ⟨_, hr, upd_split sp hb0, ⟨[.pt b (.cells (xs ++ ys ++ spare.drop ys.length).toArray T (0, 0))], ⟨by simp [hxs, hlen, hadd], .inr ⟨b, spare.drop ys.length, rfl, hroom, ?_, rfl⟩⟩, ?_⟩, qr⟩
        · simp only [List.length_append, List.length_drop] at hL ⊢
          rw [hlen, hxs] at *
          omega
        · exact ⟨_, g2, upd_split sg hpt, by simp [HA.holds, upd], trivial⟩
    · refine grown hroom ?_
      rw [ag _ _ hx]
      refine .inr ⟨rfl, xs ++ spare, T, (0, 0), hwb, ?_, ?_⟩
      · simp only [List.length_append, Nat.zero_add]; omega
      · rw [← hxs]; simp

theorem Ops.app {x y : Operand} {a : Option Addr} {n c m bytes : Nat} {T : TypeId} {z xs ys : List Value} {u : Value} {H' : List HA} (hx : get l x = some (.slice a n c)) (hy : get l y = some u) (hm : lenV u = some m)
    (own : Sel H (OwnS a n c z.length T xs) H') (sh : ∀ w h, seps H' h → Fits F h w → shows w z.length m u ys) (h1 : oneCells ys) (hlen : ys.length = m * z.length) (hz : 0 < z.length) (hb : (2 * (n + m) + 1024) * bytes ≤ 2 ^ 48)
    (k : ∀ a' c', Ops P F es ((d, .slice a' (n + m) c') :: l) (OwnS a' (n + m) c' z.length T (xs ++ ys) :: H') C) : Ops P F (EG.mk i (some d) none false (.app T z bytes x y) :: es) l H C :=
  Ops.busy (busyApp hx hy hm own sh h1 hlen hz hb) fun v M ⟨a', c', e1, e2⟩ => by subst e1; subst e2; exact k a' c'

/-- append to nil -/
theorem Ops.appN {x y : Operand} {m bytes : Nat} {T : TypeId} {z ys : List Value} {u : Value} (hx : get l x = some (.slice none 0 0)) (hy : get l y = some u) (hm : lenV u = some m)
    (sh : ∀ w h, seps H h → Fits F h w → shows w z.length m u ys) (h1 : oneCells ys) (hlen : ys.length = m * z.length) (hz : 0 < z.length) (hb : (2 * m + 1024) * bytes ≤ 2 ^ 48)
    (k : ∀ a' c', Ops P F es ((d, .slice a' m c') :: l) (OwnS a' m c' z.length T ys :: H) C) : Ops P F (EG.mk i (some d) none false (.app T z bytes x y) :: es) l H C := by
  refine Ops.busy (R := fun v M => ∃ a' c', v = .slice a' m c' ∧ M = OwnS a' m c' z.length T ys :: H) (fun F' ex w h ρ ag q f => ?_) fun v M ⟨a', c', e1, e2⟩ => by subst e1; subst e2; exact k a' c'
  have q2 : seps (OwnS none 0 0 z.length T [] :: H) h := ⟨noHp, h, Split.empty h, ⟨[], own_nil, trivial⟩, q⟩
  have := busyApp (P := P) (F := F) (H := OwnS none 0 0 z.length T [] :: H) (xs := []) hx hy hm .here sh h1 hlen hz (by simpa using hb) F' ex w h ρ ag q2 f
  simpa using this
end
end Eng
end Go.Proofs.YtnfomoeicgdkkaaGreatDoor

/- Loops, and small rules. -/
set_option linter.unusedSimpArgs false
set_option linter.unusedVariables false
namespace Go.Proofs.YtnfomoeicgdkkaaGreatDoor
namespace Eng

theorem own_new {s : Nat} {T : TypeId} {H : List HA} : ∀ h, seps H h → seps (OwnS none 0 0 s T [] :: H) h :=
  fun h q => ⟨noHp, h, Split.empty h, ⟨[], own_nil, trivial⟩, q⟩

theorem FrSub.nil {l : Fr} : FrSub l [] := fun _ _ h => by cases h
theorem FrSub.cons {l r : Fr} {k : Nat} {v : Value} (h : look l k = some v) (s : FrSub l r) : FrSub l ((k, v) :: r) := fun t u e => by
  rw [look_cons] at e
  split at e
  · rename_i x; subst x; cases e; exact h
  · exact s t u e

section
variable {P : Program} {f : FuncId} {n : Nat} {F : Hp} {K : List EI} {l : Fr} {H : List HA} {R : Value → List HA → Prop}

theorem Run.again {l' : Fr} {H' : List HA} (r : Run P f n F K l' H' R) (e : FrSub l l') (q : ∀ h, seps H h → seps H' h) : Run P f n F K l H R := Run.conseq q (Run.sub e r)

/-- A loop: its state is an ι, with what the temporaries and the memory are at it; a round lowers the measure. -/
theorem Run.loopI {ι : Type} {B : EC} (μ : ι → Nat) (Inv : ι → Prop) (lf : ι → Fr) (Hf : ι → List HA) (x0 : ι) (h0 : Inv x0) (e : FrSub l (lf x0)) (q : ∀ h, seps H h → seps (Hf x0) h)
    (step : ∀ x, Inv x → (∀ y, μ y < μ x → Inv y → Run P f n F (.code (.loop B) :: K) (lf y) (Hf y) R) → Run P f n F (.code B :: .lp B :: K) (lf x) (Hf x) R) :
    Run P f n F (.code (.loop B) :: K) l H R := by
  have key : ∀ m x, μ x = m → Inv x → Run P f n F (.code (.loop B) :: K) (lf x) (Hf x) R := by
    intro m
    induction m using Nat.strongRecOn with
    | _ m ih =>
      intro x hm hx
      refine Run.loop (step x hx fun y hy hy2 => ih (μ y) (by omega) y rfl hy2)
  exact Run.again (key _ x0 rfl h0) e q

theorem Run.condT {c : Operand} {x y : EC} (hc : get l c = some (.bool true)) (r : Run P f n F (.code x :: K) l H R) : Run P f n F (.code (.cond c x y) :: K) l H R :=
  Run.cond hc (fun _ => r) (fun e => by cases e)
theorem Run.condF {c : Operand} {x y : EC} (hc : get l c = some (.bool false)) (r : Run P f n F (.code y :: K) l H R) : Run P f n F (.code (.cond c x y) :: K) l H R :=
  Run.cond hc (fun e => by cases e) (fun _ => r)

/-- a test on a condition -/
theorem Run.condD {c : Operand} {x y : EC} {p : Prop} [Decidable p] (hc : get l c = some (.bool (decide p))) (r1 : p → Run P f n F (.code x :: K) l H R) (r2 : ¬ p → Run P f n F (.code y :: K) l H R) :
    Run P f n F (.code (.cond c x y) :: K) l H R :=
  Run.cond hc (fun e => r1 (of_decide_eq_true e)) (fun e => r2 (of_decide_eq_false e))

/-- a result is one temporary -/
theorem Run.ret1 {fn : Func} {t : Nat} {v : Value} {H' : List HA} (hf : P.funcs[f]? = some fn) (hfn : fn.results = [.tmp t].toArray) (hv : look l t = some v) (hH : ∀ h, seps H h → seps H' h) (hR : R v H') : Run P f n F (.code .ret :: K) l H R :=
  Run.ret hf hfn (.tmp hv .nil) hH hR
theorem Run.ret2 {fn : Func} {t u : Nat} {v x : Value} {H' : List HA} (hf : P.funcs[f]? = some fn) (hfn : fn.results = [.tmp t, .tmp u].toArray) (hv : look l t = some v) (hx : look l u = some x) (hH : ∀ h, seps H h → seps H' h) (hR : R (.tuple [v, x].toArray) H') :
    Run P f n F (.code .ret :: K) l H R :=
  Run.ret hf hfn (.tmp hv (.tmp hx .nil)) hH hR
theorem Run.ret0 {fn : Func} {H' : List HA} (hf : P.funcs[f]? = some fn) (hfn : fn.results = [].toArray) (hH : ∀ h, seps H h → seps H' h) (hR : R (.tuple [].toArray) H') : Run P f n F (.code .ret :: K) l H R :=
  Run.ret hf hfn .nil hH hR
theorem Run.done0 {fn : Func} {H' : List HA} (hf : P.funcs[f]? = some fn) (hfn : fn.results = [].toArray) (hH : ∀ h, seps H h → seps H' h) (hR : R (.tuple [].toArray) H') : Run P f n F [] l H R :=
  Run.done hf hfn .nil hH hR
end

section
variable {P : Program} {F : Hp} {l : Fr} {H : List HA} {C : Fr → List HA → Prop} {es : List EG} {i d : Nat} {c : Bool}

theorem Ops.st0 {x y : Operand} {b o : Nat} {L : List Value} {T : TypeId} {v : Value} {H' : List HA} (hx : get l x = some (.pointer (some ⟨b, o, none⟩))) (hy : get l y = some v) (hvs : vcells v = [v]) (h1 : one v = true)
    (u : Upd H (.pt b (.cells L.toArray T (0, 0))) (.pt b (.cells (L.set o v).toArray T (0, 0))) H') (hl : o < L.length)
    (k : Ops P F es l H' C) : Ops P F (EG.mk i none none false (.st x y 1) :: es) l H C := Ops.st hx hy hvs h1 u hl k

theorem Ops.stn0 {x y : Operand} {b o n : Nat} {L vs : List Value} {T : TypeId} {v : Value} {H' : List HA} (hx : get l x = some (.pointer (some ⟨b, o, none⟩))) (hy : get l y = some v) (hvs : vcells v = vs) (hn : vs.length = n) (h1 : oneCells vs)
    (u : Upd H (.pt b (.cells L.toArray T (0, 0))) (.pt b (.cells (L.take o ++ vs ++ L.drop (o + n)).toArray T (0, 0))) H') (hl : o + n ≤ L.length) (h0 : vs ≠ [])
    (k : Ops P F es l H' C) : Ops P F (EG.mk i none none false (.st x y n) :: es) l H C := Ops.stn hx hy hvs hn h1 u hl h0 k

theorem Ops.call0 {g : FuncId} {args : List Operand} {vs : List Value} {Pre Rest : List HA} {R : Value → List HA → Prop} (ha : getL l args = some vs) (t : Take H Pre Rest)
    (sp : ∀ F', Ext F F' → Known Rest F' → Spec P g vs.toArray F' Pre R) (k : ∀ v G, R v G → Ops P F es l (G ++ Rest) C) :
    Ops P F (EG.mk i none none false (.call g args.toArray) :: es) l H C := Ops.call ha t sp k

theorem Ops.call1 {g : FuncId} {args : List Operand} {vs : List Value} {Pre Rest : List HA} {R : Value → List HA → Prop} (ha : getL l args = some vs) (t : Take H Pre Rest)
    (sp : ∀ F', Ext F F' → Known Rest F' → Spec P g vs.toArray F' Pre R) (k : ∀ v G, R v G → Ops P F es ((d, v) :: l) (G ++ Rest) C) :
    Ops P F (EG.mk i (some d) none false (.call g args.toArray) :: es) l H C := Ops.call ha t sp k

theorem take_app (Pre Rest : List HA) : Take (Pre ++ Rest) Pre Rest := by
  induction Pre with
  | nil => exact .nil
  | cons p ps ih => exact .cons .here ih

/-- a call for which what is owned is first put otherwise (closed into groups, say) -/
theorem Ops.callE {dd : Option Nat} {g : FuncId} {args : List Operand} {vs : List Value} (Pre Rest : List HA) {R : Value → List HA → Prop} (ha : getL l args = some vs) (e : ∀ h, seps H h → seps (Pre ++ Rest) h)
    (sp : ∀ F', Ext F F' → Known Rest F' → Spec P g vs.toArray F' Pre R) (k : ∀ v G, R v G → Ops P F es (putD dd l v) (G ++ Rest) C) :
    Ops P F (EG.mk i dd none false (.call g args.toArray) :: es) l H C :=
  Ops.busy (R := fun v H' => ∃ G, R v G ∧ H' = G ++ Rest)
    (fun F' ex w h ρ a q f => by
      simp only [EOp.wp]
      have : args.toArray.map ρ = vs.toArray := by rw [← getL_sound a ha]; simp
      rw [this]
      refine (Spec.frame (take_app Pre Rest) (fun F2 e k => sp F2 (ex.trans e) k) w h (e h q) f).mono ?_
      rintro e w' ⟨v, H', h', he, r, q', f', kp⟩
      exact ⟨v, H', h', he, r, q', f', kp⟩)
    fun v H' ⟨G, r, e⟩ => by subst e; exact k v G r

theorem Ops.callE1 {g : FuncId} {args : List Operand} {vs : List Value} (Pre Rest : List HA) {R : Value → List HA → Prop} (ha : getL l args = some vs) (e : ∀ h, seps H h → seps (Pre ++ Rest) h)
    (sp : ∀ F', Ext F F' → Known Rest F' → Spec P g vs.toArray F' Pre R) (k : ∀ v G, R v G → Ops P F es ((d, v) :: l) (G ++ Rest) C) :
    Ops P F (EG.mk i (some d) none false (.call g args.toArray) :: es) l H C := Ops.callE Pre Rest ha e sp k

theorem Ops.gn1 {s : Nat} {want : Bool} {v : Value} {op : EOp} (hl : look l s = some v) (hv : asB v ≠ some want) (k : Ops P F es ((d, undef) :: l) H C) : Ops P F (EG.mk i (some d) (some (s, want)) c op :: es) l H C := Ops.gn hl hv k
theorem Ops.gnB {s : Nat} {want t : Bool} {op : EOp} (hl : look l s = some (.bool t)) (hv : t ≠ want) (k : Ops P F es ((d, undef) :: l) H C) : Ops P F (EG.mk i (some d) (some (s, want)) c op :: es) l H C := Ops.gn hl (by simpa [asB] using hv) k
theorem Ops.gyB {dd : Option Nat} {s : Nat} {want t : Bool} {op : EOp} (hl : look l s = some (.bool t)) (hv : t = want) (k : Ops P F (EG.mk i dd none c op :: es) l H C) : Ops P F (EG.mk i dd (some (s, want)) c op :: es) l H C := Ops.gy hl (by simp [asB, hv]) k

theorem Ops.mks {T : TypeId} {z : List Value} {bytes : Nat} {x y : Operand} {k1 k2 : IntKind} {n m : Int} (hx : get l x = some (.int k1 n)) (hy : get l y = some (.int k2 m)) (h0 : 0 ≤ n) (h1 : n ≤ m) (hb : (bytes : Int) * m ≤ 2 ^ 48)
    (k : ∀ b, Ops P F es ((d, .slice (some ⟨b, 0, none⟩) n.toNat m.toNat) :: l) (.pt b (.cells (zerosL z m.toNat).toArray T (0, 0)) :: H) C) : Ops P F (EG.mk i (some d) none false (.mks T z bytes x y) :: es) l H C :=
  Ops.fresh (fun ρ a => by simp only [freshRun]; rw [a _ _ hx, a _ _ hy]; simp only; rw [if_pos ⟨h0, h1, hb⟩]) k

def getParts (l : Fr) : List (Nat × Nat × Operand) → Option (List (Nat × Nat × Value))
  | [] => some []
  | (o, s, x) :: r => match get l x, getParts l r with
    | some v, some vs => some ((o, s, v) :: vs)
    | _, _ => none

theorem getParts_sound {ρ : Operand → Value} (a : Agrees l ρ) : ∀ {parts : List (Nat × Nat × Operand)} {ps : List (Nat × Nat × Value)}, getParts l parts = some ps → parts.map (fun p => (p.1, p.2.1, ρ p.2.2)) = ps := by
  intro parts
  induction parts with
  | nil => intro ps h; cases h; rfl
  | cons p r ih =>
    intro ps h
    obtain ⟨o, s, x⟩ := p
    simp only [getParts] at h
    split at h
    · rename_i v vs h1 h2; cases h; rw [List.map_cons, ih h2]; simp only; rw [a _ _ h1]
    · cases h

theorem Ops.bld {z : List Value} {parts : List (Nat × Nat × Operand)} {ps : List (Nat × Nat × Value)} (cs : List Value) (hp : getParts l parts = some ps) (hb : buildL z ps = some cs)
    (k : Ops P F es ((d, .agg cs.toArray) :: l) H C) : Ops P F (EG.mk i (some d) none c (.build z parts) :: es) l H C := Ops.build (fun _ a => getParts_sound a hp) hb k

theorem Ops.lit {T : TypeId} {z : List Value} {n : Nat} {parts : List (Nat × Nat × Operand)} {ps : List (Nat × Nat × Value)} (cs : List Value) (hp : getParts l parts = some ps) (hb : buildL z ps = some cs)
    (k : ∀ b, Ops P F es ((d, .slice (some ⟨b, 0, none⟩) n n) :: l) (.pt b (.cells cs.toArray T (0, 0)) :: H) C) : Ops P F (EG.mk i (some d) none false (.bsl T z n parts) :: es) l H C := Ops.bsl (fun _ a => getParts_sound a hp) hb k

def optG (l : Fr) (x : Option Operand) (d : Nat) : Option Nat :=
  match x with
  | none => some d
  | some x => match get l x with
    | some (.int _ i) => if 0 ≤ i then some i.toNat else none
    | _ => none

theorem optG_sound {ρ : Operand → Value} (a : Agrees l ρ) {x : Option Operand} {d n : Nat} (h : optG l x d = some n) : optN ρ x d = some n := by
  cases x with
  | none => exact h
  | some x =>
    simp only [optG] at h
    split at h
    · rename_i k i e; simp only [optN, a _ _ e]; exact h
    · cases h

/-- a piece of a slice; where nothing is left of it its address says nothing -/
theorem Ops.slS {x : Operand} {s : Nat} {lo hi : Option Operand} {b o n cp l1 h1 : Nat} (hx : get l x = some (.slice (some ⟨b, o, none⟩) n cp)) (hh : optG l hi n = some h1) (hl : optG l lo 0 = some l1)
    (h2 : l1 ≤ h1) (h3 : h1 ≤ cp) (k : ∀ a', (a' = some ⟨b, o + l1 * s, none⟩ ∨ h1 - l1 = 0) → Ops P F es ((d, .slice a' (h1 - l1) (cp - l1)) :: l) H C) : Ops P F (EG.mk i (some d) none c (.slS x s lo hi none) :: es) l H C := by
  refine Ops.any (v := .slice (if cp = l1 then some ⟨b, o, none⟩ else (some ⟨b, o, none⟩ : Option Addr).map (·.add (l1 * s))) (h1 - l1) (cp - l1)) (fun ρ w Q a _ q => ?_) (k _ ?_)
  · exact ⟨_, n, cp, l1, h1, cp, a _ _ hx, rfl, optG_sound a hh, optG_sound a hl, by simp, h2, h3, Nat.le_refl _, q⟩
  · by_cases e : cp = l1
    · right; omega
    · left; rw [if_neg e]; simp [add_mk]

/-- a piece of an array -/
theorem Ops.slA {x : Operand} {s n : Nat} {lo hi : Option Operand} {b o l1 h1 : Nat} (hx : get l x = some (.pointer (some ⟨b, o, none⟩))) (hh : optG l hi n = some h1) (hl : optG l lo 0 = some l1)
    (h2 : l1 ≤ h1) (h3 : h1 ≤ n) (k : ∀ a', (a' = some ⟨b, o + l1 * s, none⟩ ∨ h1 - l1 = 0) → Ops P F es ((d, .slice a' (h1 - l1) (n - l1)) :: l) H C) : Ops P F (EG.mk i (some d) none c (.slA x n s lo hi none) :: es) l H C := by
  refine Ops.any (v := .slice (some (if n = l1 then ⟨b, o, none⟩ else (⟨b, o, none⟩ : Addr).add (l1 * s))) (h1 - l1) (n - l1)) (fun ρ w Q a _ q => ?_) (k _ ?_)
  · exact ⟨_, l1, h1, n, a _ _ hx, rfl, optG_sound a hh, optG_sound a hl, by simp, h2, h3, Nat.le_refl _, q⟩
  · by_cases e : n = l1
    · right; omega
    · left; rw [if_neg e, add_mk]
end
end Eng
end Go.Proofs.YtnfomoeicgdkkaaGreatDoor

/- Rules for arithmetic on numbers in their range, and for bits. -/
set_option linter.unusedSimpArgs false
set_option linter.unusedVariables false
namespace Go.Proofs.YtnfomoeicgdkkaaGreatDoor
namespace Eng

theorem wrap_nat {k : IntKind} (hs : k.signed = false) {n : Nat} (h : n < 2 ^ k.bits) : k.wrap (n : Int) = (n : Int) := by
  unfold IntKind.wrap
  rw [hs]
  simp only [Bool.false_and, Bool.false_eq_true, if_false]
  have : ((2 : Int) ^ k.bits) = ((2 ^ k.bits : Nat) : Int) := by simp
  rw [this, ← Int.natCast_emod, Nat.mod_eq_of_lt h]

def plainOp : EOp → Bool
  | .bin op _ _ => match op with
    | .eql | .neq | .lss | .leq | .gtr | .geq => true
    | _ => false
  | .cvI _ _ => false
  | _ => true

section
variable {P : Program} {F : Hp} {l : Fr} {H : List HA} {C : Fr → List HA → Prop} {es : List EG} {i d : Nat} {c : Bool}

/-- a group none of whose operations must read from the frame -/
def ownReads (es : List EG) : Bool := es.all fun e => !e.calm || pureKind e.op
theorem Segs.oneS {r : List (List EG)} (_ : ownReads es = true) (h : Ops P F es l H fun l' H' => Segs P F r l' H' C) : Segs P F (es :: r) l H C := .inl h

/-- an operation that asks nothing of the world, and does not reckon -/
theorem Ops.q {op : EOp} {v : Value} (hp : plainOp op = true) (h : pv l op = some v) (k : Ops P F es ((d, v) :: l) H C) : Ops P F (EG.mk i (some d) none c op :: es) l H C := Ops.p h k

theorem Ops.rem {x y : Operand} {k : IntKind} {a b : Int} (hx : get l x = some (.int k a)) (hy : get l y = some (.int k b)) (h0 : 0 ≤ a) (hb : 0 < b) (kk : Ops P F es ((d, .int k (a % b)) :: l) H C) :
    Ops P F (EG.mk i (some d) none c (.bin .rem x y) :: es) l H C :=
  Ops.p (by
    have : ¬ b = 0 := by omega
    simp only [pv, hx, hy, binVal, if_true, if_neg this]
    rw [Int.tmod_eq_emod_of_nonneg h0]) kk

theorem Ops.quo {x y : Operand} {a b : Int} (hx : get l x = some (.int .i64 a)) (hy : get l y = some (.int .i64 b)) (h0 : 0 ≤ a ∧ a < 9223372036854775808) (hb : 0 < b) (kk : Ops P F es ((d, .int .i64 (a / b)) :: l) H C) :
    Ops P F (EG.mk i (some d) none c (.bin .quo x y) :: es) l H C :=
  Ops.p (by
    have : ¬ b = 0 := by omega
    simp only [pv, hx, hy, binVal, if_true, if_neg this]
    rw [Int.tdiv_eq_ediv_of_nonneg h0.1, wrap_i64]
    · have := Int.ediv_nonneg h0.1 (Int.le_of_lt hb); omega
    · have := Int.ediv_le_self b h0.1; omega) kk

theorem Ops.shr {x y : Operand} {k k' : IntKind} {a j : Nat} {jj : Int} (hx : get l x = some (.int k (a : Int))) (hy : get l y = some (.int k' jj)) (hj : jj = (j : Int)) (h : j ≤ k.bits) (kk : Ops P F es ((d, .int k ((a >>> j : Nat) : Int)) :: l) H C) :
    Ops P F (EG.mk i (some d) none c (.bin .shr x y) :: es) l H C :=
  Ops.p (by
    subst hj
    have e2 : ¬ (((j : Nat) : Int) < 0) := by omega
    have e3 : min ((j : Nat) : Int).toNat k.bits = j := by simp; omega
    simp only [pv, hx, hy, binVal, if_neg e2, e3]
    have e4 : ((a : Nat) : Int).fdiv (2 ^ j) = ((a >>> j : Nat) : Int) := by
      rw [Nat.shiftRight_eq_div_pow, Int.fdiv_eq_ediv_of_nonneg _ (Int.le_of_lt (Int.pow_pos (by omega)))]
      simp
    rw [e4]) kk

theorem bv_nat {n w : Nat} (h : n < 2 ^ w) : (BitVec.ofInt w (n : Int)).toNat = n := by
  rw [BitVec.ofInt_natCast, BitVec.toNat_ofNat, Nat.mod_eq_of_lt h]

theorem Ops.and {x y : Operand} {k : IntKind} {a b : Nat} {aa bb : Int} (hx : get l x = some (.int k aa)) (hy : get l y = some (.int k bb)) (ea : aa = (a : Int)) (eb : bb = (b : Int)) (hs : k.signed = false) (ha : a < 2 ^ k.bits) (hb : b < 2 ^ k.bits)
    (kk : Ops P F es ((d, .int k ((a &&& b : Nat) : Int)) :: l) H C) : Ops P F (EG.mk i (some d) none c (.bin .and x y) :: es) l H C :=
  Ops.p (by
    subst ea; subst eb
    simp only [pv, hx, hy, binVal, if_true]
    rw [BitVec.toNat_and, bv_nat ha, bv_nat hb, wrap_nat hs (Nat.lt_of_le_of_lt Nat.and_le_left ha)]) kk

theorem Ops.or {x y : Operand} {k : IntKind} {a b : Nat} {aa bb : Int} (hx : get l x = some (.int k aa)) (hy : get l y = some (.int k bb)) (ea : aa = (a : Int)) (eb : bb = (b : Int)) (hs : k.signed = false) (ha : a < 2 ^ k.bits) (hb : b < 2 ^ k.bits)
    (kk : Ops P F es ((d, .int k ((a ||| b : Nat) : Int)) :: l) H C) : Ops P F (EG.mk i (some d) none c (.bin .or x y) :: es) l H C :=
  Ops.p (by
    subst ea; subst eb
    simp only [pv, hx, hy, binVal, if_true]
    rw [BitVec.toNat_or, bv_nat ha, bv_nat hb, wrap_nat hs (Nat.or_lt_two_pow ha hb)]) kk

theorem Ops.xor {x y : Operand} {k : IntKind} {a b : Nat} {aa bb : Int} (hx : get l x = some (.int k aa)) (hy : get l y = some (.int k bb)) (ea : aa = (a : Int)) (eb : bb = (b : Int)) (hs : k.signed = false) (ha : a < 2 ^ k.bits) (hb : b < 2 ^ k.bits)
    (kk : Ops P F es ((d, .int k ((a ^^^ b : Nat) : Int)) :: l) H C) : Ops P F (EG.mk i (some d) none c (.bin .xor x y) :: es) l H C :=
  Ops.p (by
    subst ea; subst eb
    simp only [pv, hx, hy, binVal, if_true]
    rw [BitVec.toNat_xor, bv_nat ha, bv_nat hb, wrap_nat hs (Nat.xor_lt_two_pow ha hb)]) kk

/-- masks of an int that is at least 0 -/
theorem Ops.and64 {x y : Operand} {a b : Nat} {aa bb : Int} (hx : get l x = some (.int .i64 aa)) (hy : get l y = some (.int .i64 bb)) (ea : aa = (a : Int)) (eb : bb = (b : Int)) (ha : a < 9223372036854775808) (hb : b < 9223372036854775808)
    (kk : Ops P F es ((d, .int .i64 ((a &&& b : Nat) : Int)) :: l) H C) : Ops P F (EG.mk i (some d) none c (.bin .and x y) :: es) l H C :=
  Ops.p (by
    subst ea; subst eb
    simp only [pv, hx, hy, binVal, if_true]
    rw [BitVec.toNat_and, bv_nat (by simp [IntKind.bits]; omega), bv_nat (by simp [IntKind.bits]; omega)]
    have := @Nat.and_le_left a b
    rw [wrap_i64 (by omega) (by omega)]) kk
end
end Eng
end Go.Proofs.YtnfomoeicgdkkaaGreatDoor

/- Lending for the rest of a run; copies; arrays that are held against one another. -/
set_option linter.unusedSimpArgs false
set_option linter.unusedVariables false
namespace Go.Proofs.YtnfomoeicgdkkaaGreatDoor
namespace Eng

section
variable {P : Program} {f : FuncId} {n : Nat} {F : Hp} {K : List EI} {l : Fr} {H : List HA} {R : Value → List HA → Prop}

/-- what is owned is lent for the rest of a run -/
theorem Run.lend (S : List HA) {M : List HA} (t : Take H S M) (r : ∀ F', Ext F F' → Known S F' → Run P f n F' K l M (fun v H' => R v (H' ++ S))) : Run P f n F K l H R := by
  intro K' w0 w h a i q fw fa kp
  obtain ⟨x, y, sp, qx, qy⟩ := seps_append.1 (t.sound q)
  have hb : ∀ n, x n = none ∨ F n = none := fun n => (fw.dis n).imp sp.none_left id
  have ext : Ext F (join F x) := fun n o e => by simp [join, e]
  have known : Known S (join F x) := fun n o m => by
    have := seps_mem_pt m qx
    rcases hb n with e | e
    · rw [e] at this; cases this
    · simp [join, e, this]
  refine (r (join F x) ext known K' w0 w y a i qy (fw.split sp.symm) fa kp).mono ?_
  rintro e w' ⟨v, H', h', he, r, q', k', kp'⟩
  have ⟨k2, s2⟩ := k'.unsplit hb
  exact ⟨v, _, _, he, r, seps_append.2 ⟨h', x, s2, q', qx⟩, k2, kp'⟩
/-- where the ways behind a condition meet again -/
theorem Run.meet {ι : Type} {X : EC} (Inv : ι → Prop) (lf : ι → Fr) (Hf : ι → List HA) (tail : ∀ j, Inv j → Run P f n F K (lf j) (Hf j) R)
    (br : (∀ j, Inv j → Run P f n F K (lf j) (Hf j) R) → Run P f n F (.code X :: K) l H R) : Run P f n F (.code X :: K) l H R := br tail

/-- what is owned is lent, and then dropped -/
theorem Run.lendD (S : List HA) {M : List HA} (t : Take H S M) (r : ∀ F', Ext F F' → Known S F' → Run P f n F' K l M R) : Run P f n F K l H R := by
  intro K' w0 w h a i q fw fa kp
  obtain ⟨x, y, sp, qx, qy⟩ := seps_append.1 (t.sound q)
  have hb : ∀ n, x n = none ∨ F n = none := fun n => (fw.dis n).imp sp.none_left id
  have ext : Ext F (join F x) := fun n o e => by simp [join, e]
  have known : Known S (join F x) := fun n o m => by
    have := seps_mem_pt m qx
    rcases hb n with e | e
    · rw [e] at this; cases this
    · simp [join, e, this]
  refine (r (join F x) ext known K' w0 w y a i qy (fw.split sp.symm) fa kp).mono ?_
  rintro e w' ⟨v, H', h', he, r, q', k', kp'⟩
  have ⟨k2, s2⟩ := k'.unsplit hb
  exact ⟨v, _, _, he, r, seps_up q' s2.symm, k2, kp'⟩
end

section
variable {P : Program} {F : Hp} {l : Fr} {H : List HA} {C : Fr → List HA → Prop} {es : List EG} {i d : Nat} {c : Bool}

theorem Ops.eqa {x y : Operand} {k : IntKind} {n : Nat} {T : TypeId} (xs ys : List Int) (hx : get l x = some (.agg (xs.map (Value.int k)).toArray)) (hy : get l y = some (.agg (ys.map (Value.int k)).toArray)) (h1 : xs.length = n) (h2 : ys.length = n)
    (kk : Ops P F es ((d, .bool (xs == ys)) :: l) H C) : Ops P F (EG.mk i (some d) none c (.eqa false T k n x y) :: es) l H C :=
  Ops.any (fun _ _ _ a _ q => ⟨xs, ys, a _ _ hx, a _ _ hy, h1, h2, q⟩) kk

theorem Upd.self' {H H' : List HA} {x y : HA} (u : Upd H x y H') : x = y → H' = H := by
  induction u with
  | here => intro hy; subst hy; rfl
  | there _ ih => intro hy; rw [ih hy]
theorem Upd.self {H H' : List HA} {x : HA} (u : Upd H x x H') : H' = H := u.self' rfl

/-- copy into an array that is owned -/
theorem Ops.cpy {x y : Operand} {b o dl dc m s : Nat} {L vs : List Value} {T : TypeId} {v : Value} {H' : List HA} (hx : get l x = some (.slice (some ⟨b, o, none⟩) dl dc)) (hy : get l y = some v) (hm : lenV v = some m)
    (sh : ∀ w h, seps H h → Fits F h w → shows w s (Nat.min m dl) v vs) (h1 : oneCells vs)
    (u : Upd H (.pt b (.cells L.toArray T (0, 0))) (.pt b (.cells (L.take o ++ vs ++ L.drop (o + vs.length)).toArray T (0, 0))) H') (hl : o + vs.length ≤ L.length)
    (k : Ops P F es ((d, .int .i64 (Nat.min m dl : Nat)) :: l) H' C) : Ops P F (EG.mk i (some d) none false (.cpy s x y) :: es) l H C :=
  Ops.busy (R := fun v' M => v' = .int .i64 (Nat.min m dl : Nat) ∧ M = H') (fun F' ex w h ρ a q f => by
    refine ⟨some ⟨b, o, none⟩, dl, dc, m, vs, a _ _ hx, by rw [a _ _ hy]; exact hm, by rw [a _ _ hy]; exact sh w h q (f.weak ex), ?_⟩
    refine ⟨rfl, ?_⟩
    by_cases hv : vs = []
    · rw [if_pos hv]
      subst hv
      have hL : L.take o ++ [] ++ L.drop (o + ([] : List Value).length) = L := by simp
      rw [hL] at u
      exact ⟨H', h, ⟨rfl, rfl⟩, by rw [u.self]; exact q, f, Keeps.refl w⟩
    · rw [if_neg hv]
      exact ⟨L, T, (0, 0), f.own _ _ (seps_mem_pt u.mem q), h1, hl, fun j _ _ => nofz j, ⟨H', _, ⟨rfl, rfl⟩, seps_upd u q, f.set (seps_mem_pt u.mem q), Keeps.setBlk w b _⟩⟩) fun v' M ⟨e1, e2⟩ => by subst e1; subst e2; exact k
end
end Eng
end Go.Proofs.YtnfomoeicgdkkaaGreatDoor

/- Steps told in one word; rules for maps, ranges and calls of interfaces. -/
set_option linter.unusedSimpArgs false
set_option linter.unusedVariables false
namespace Go.Proofs.YtnfomoeicgdkkaaGreatDoor
namespace Eng

structure Due (q : Prop) : Prop where
  out : q

/-- a goal taken as far as its steps go by themselves -/
theorem go {p q : Prop} (k : q) (h : Due q → p := by
  intro k
  (repeat (first | (apply Ops.q; rfl; rfl) | (apply Ops.gyB; rfl; rfl) | (apply Ops.gnB; rfl; decide) | (apply Ops.add; rfl; rfl; (constructor <;> omega)) | (apply Ops.sub; rfl; rfl; (constructor <;> omega)) | (apply Ops.rem; rfl; rfl; omega; omega) | (apply Ops.quo; rfl; rfl; (constructor <;> omega); omega) | (apply Ops.ld; rfl; (first | exact m0 | exact m1 | exact m2 | exact m3 | exact m4 | exact m5 | exact m6); rfl) | (apply Ops.st0; rfl; rfl; rfl; rfl; (first | exact u0 | exact u1 | exact u2 | exact u3 | exact u4 | exact u5); focus (simp; done)) | refine Ops.nil ?_ | refine Segs.nil ?_ | (apply Segs.oneS; rfl) | refine Run.seq ?_ | refine Run.reg ?_ | refine Run.block ?_ | refine Run.blk ?_ | refine Run.skip ?_))
  exact k.out) : p := h ⟨k⟩
/-- the same within one group of operations -/
theorem go1 {p q : Prop} (k : q) (h : Due q → p := by
  intro k
  (repeat (first | (apply Ops.q; rfl; rfl) | (apply Ops.gyB; rfl; rfl) | (apply Ops.gnB; rfl; decide) | (apply Ops.add; rfl; rfl; (constructor <;> omega)) | (apply Ops.sub; rfl; rfl; (constructor <;> omega)) | (apply Ops.rem; rfl; rfl; omega; omega) | (apply Ops.quo; rfl; rfl; (constructor <;> omega); omega)))
  exact k.out) : p := h ⟨k⟩

theorem Spec.enterC {P : Program} {f : FuncId} {n : Nat} {F : Hp} {R : Value → List HA → Prop} {fn : Func} {args : List Value} {Pre : List HA} (hf : P.funcs[f]? = some fn) (hn : fn.ntmps = n) (hs : args.length ≤ n) (hne : (compileFn P fn).isSome = true)
    (r : ∀ ec, compileFn P fn = some ec → Run P f n F [.code ec] (argFr 0 args) Pre R) : Spec P f args.toArray F Pre R := by
  cases hc : compileFn P fn with
  | none => rw [hc] at hne; cases hne
  | some ec => exact Spec.enter hf hc hn hs (r ec hc)

section
variable {P : Program} {F : Hp} {l : Fr} {H : List HA} {C : Fr → List HA → Prop} {es : List EG} {i d : Nat} {c : Bool}

theorem Ops.mkm (k : ∀ b, Ops P F es ((d, .map (some b)) :: l) (.pt b (.map (List.toArray []) 0) :: H) C) : Ops P F (EG.mk i (some d) none false .mkm :: es) l H C :=
  Ops.fresh (fun _ _ => rfl) k

theorem Ops.lkpF {x y : Operand} {D : TypeDesc} {z : Value} {ok : Bool} {r : Nat} {es' : List MapEntry} {ck : Nat} {u : Value} {fr : Option (Nat × Value)} (hx : get l x = some (.map (some r))) (hy : get l y = some u) (hF : F r = some (.map es'.toArray ck))
    (hf : Instr.findNow D u es' 0 = some fr) (k : Ops P F es ((d, foundV z ok fr) :: l) H C) : Ops P F (EG.mk i (some d) none c (.lkp D z ok x y) :: es) l H C :=
  Ops.any (fun ρ w Q a f q => ⟨es', fr, by rw [a _ _ hx]; simp only [mapAt, f _ _ hF], by rw [a _ _ hy]; exact hf, q⟩) k

theorem Ops.lkp {x y : Operand} {D : TypeDesc} {z : Value} {ok : Bool} {r : Nat} {es' : List MapEntry} {ck : Nat} {u : Value} {fr : Option (Nat × Value)} (hx : get l x = some (.map (some r))) (hy : get l y = some u) (m : HA.pt r (.map es'.toArray ck) ∈ H)
    (hf : Instr.findNow D u es' 0 = some fr) (k : Ops P F es ((d, foundV z ok fr) :: l) H C) : Ops P F (EG.mk i (some d) none false (.lkp D z ok x y) :: es) l H C :=
  Ops.reads (fun ρ w h Q a q f r => ⟨es', fr, by rw [a _ _ hx]; simp only [mapAt, f.own _ _ (seps_mem_pt m q)], by rw [a _ _ hy]; exact hf, r⟩) k

theorem Ops.lkpN {x y : Operand} {D : TypeDesc} {z : Value} {ok : Bool} (hx : get l x = some (.map none)) (k : Ops P F es ((d, foundV z ok none) :: l) H C) : Ops P F (EG.mk i (some d) none c (.lkp D z ok x y) :: es) l H C :=
  Ops.any (fun ρ w Q a f q => ⟨[], none, by rw [a _ _ hx]; rfl, rfl, q⟩) k

theorem Ops.lenmF {x : Operand} {r : Nat} {es' : List MapEntry} {ck : Nat} (hx : get l x = some (.map (some r))) (hF : F r = some (.map es'.toArray ck)) (k : Ops P F es ((d, .int .i64 es'.length) :: l) H C) : Ops P F (EG.mk i (some d) none c (.lenm x) :: es) l H C :=
  Ops.any (fun ρ w Q a f q => .inr ⟨r, es'.toArray, ck, a _ _ hx, f _ _ hF, by simpa using q⟩) k
theorem Ops.lenm {x : Operand} {r : Nat} {es' : List MapEntry} {ck : Nat} (hx : get l x = some (.map (some r))) (m : HA.pt r (.map es'.toArray ck) ∈ H) (k : Ops P F es ((d, .int .i64 es'.length) :: l) H C) : Ops P F (EG.mk i (some d) none false (.lenm x) :: es) l H C :=
  Ops.reads (fun ρ w h Q a q f r => .inr ⟨_, es'.toArray, ck, a _ _ hx, f.own _ _ (seps_mem_pt m q), by simpa using r⟩) k
theorem Ops.lenmN {x : Operand} (hx : get l x = some (.map none)) (k : Ops P F es ((d, .int .i64 0) :: l) H C) : Ops P F (EG.mk i (some d) none c (.lenm x) :: es) l H C :=
  Ops.any (fun ρ w Q a f q => .inl ⟨a _ _ hx, q⟩) k

theorem Ops.mup {x y z : Operand} {D : TypeDesc} {r : Nat} {es' : List MapEntry} {ck : Nat} {u v : Value} {fr : Option (Nat × Value)} {H' : List HA} (hx : get l x = some (.map (some r))) (hy : get l y = some u) (hz : get l z = some v) (hf : Instr.findNow D u es' 0 = some fr)
    (up : Upd H (.pt r (.map es'.toArray ck)) (.pt r (.map (mapPut es' ck u v fr).toArray (mapClock ck fr))) H') (k : Ops P F es l H' C) : Ops P F (EG.mk i none none false (.mup D x y z) :: es) l H C :=
  Ops.busy (R := fun v' H2 => v' = undef ∧ H2 = H') (fun F' ex w h ρ a q f => ⟨r, es', ck, fr, a _ _ hx, f.own _ _ (seps_mem_pt up.mem q), by rw [a _ _ hy]; exact hf, by
      rw [a _ _ hy, a _ _ hz]; exact ⟨H', _, ⟨rfl, rfl⟩, seps_upd up q, f.set (seps_mem_pt up.mem q), Keeps.setBlk w r _⟩⟩)
    fun v' H2 ⟨e1, e2⟩ => by subst e1; subst e2; exact k

theorem Ops.del {dd : Option Nat} {x y : Operand} {D : TypeDesc} {r : Nat} {es' : List MapEntry} {ck : Nat} {u : Value} {fr : Option (Nat × Value)} {H' : List HA} (hx : get l x = some (.map (some r))) (hy : get l y = some u) (hf : Instr.findNow D u es' 0 = some fr)
    (up : Upd H (.pt r (.map es'.toArray ck)) (.pt r (.map (mapDel es' fr).toArray ck)) H') (k : Ops P F es (putD dd l (.tuple #[])) H' C) : Ops P F (EG.mk i dd none false (.del D x y) :: es) l H C :=
  Ops.busy (R := fun v' H2 => v' = .tuple #[] ∧ H2 = H') (fun F' ex w h ρ a q f => .inr ⟨r, es', ck, fr, a _ _ hx, f.own _ _ (seps_mem_pt up.mem q), by rw [a _ _ hy]; exact hf,
      ⟨H', _, ⟨rfl, rfl⟩, seps_upd up q, f.set (seps_mem_pt up.mem q), Keeps.setBlk w r _⟩⟩)
    fun v' H2 ⟨e1, e2⟩ => by subst e1; subst e2; exact k

theorem Ops.clr {dd : Option Nat} {x : Operand} {r : Nat} {es' : List MapEntry} {ck : Nat} {H' : List HA} (hx : get l x = some (.map (some r)))
    (up : Upd H (.pt r (.map es'.toArray ck)) (.pt r (.map (List.toArray []) ck)) H') (k : Ops P F es (putD dd l (.tuple #[])) H' C) : Ops P F (EG.mk i dd none false (.clr x) :: es) l H C :=
  Ops.busy (R := fun v' H2 => v' = .tuple #[] ∧ H2 = H') (fun F' ex w h ρ a q f => ⟨r, es'.toArray, ck, a _ _ hx, f.own _ _ (seps_mem_pt up.mem q), ⟨H', _, ⟨rfl, rfl⟩, seps_upd up q, f.set (seps_mem_pt up.mem q), Keeps.setBlk w r _⟩⟩)
    fun v' H2 ⟨e1, e2⟩ => by subst e1; subst e2; exact k

/-- a slice's elements are wiped -/
theorem Ops.clS {dd : Option Nat} {x : Operand} {z : List Value} {b o n m : Nat} {L : List Value} {T : TypeId} {H' : List HA} (hx : get l x = some (.slice (some ⟨b, o, none⟩) n m)) (hz : 0 < z.length) (h1 : oneCells (zerosL z n)) (hl : o + n * z.length ≤ L.length)
    (up : Upd H (.pt b (.cells L.toArray T (0, 0))) (.pt b (.cells (L.take o ++ zerosL z n ++ L.drop (o + n * z.length)).toArray T (0, 0))) H') (k : Ops P F es (putD dd l (.tuple #[])) H' C) : Ops P F (EG.mk i dd none false (.clS z x) :: es) l H C :=
  Ops.busy (R := fun v' H2 => v' = .tuple #[] ∧ H2 = H') (fun F' ex w h ρ a q f => ⟨_, n, m, a _ _ hx, .inr ⟨b, o, L, T, (0, 0), rfl, f.own _ _ (seps_mem_pt up.mem q), hz, h1, hl, fun j _ _ => nofz j,
      ⟨H', _, ⟨rfl, rfl⟩, seps_upd up q, f.set (seps_mem_pt up.mem q), Keeps.setBlk w b _⟩⟩⟩)
    fun v' H2 ⟨e1, e2⟩ => by subst e1; subst e2; exact k
theorem Ops.clS0 {dd : Option Nat} {x : Operand} {z : List Value} {a : Option Addr} {m : Nat} (hx : get l x = some (.slice a 0 m)) (k : Ops P F es (putD dd l (.tuple #[])) H C) : Ops P F (EG.mk i dd none false (.clS z x) :: es) l H C :=
  Ops.busy (R := fun v' H2 => v' = .tuple #[] ∧ H2 = H) (fun F' ex w h ρ ag q f => ⟨a, 0, m, ag _ _ hx, .inl ⟨rfl, ⟨H, h, ⟨rfl, rfl⟩, q, f, Keeps.refl w⟩⟩⟩)
    fun v' H2 ⟨e1, e2⟩ => by subst e1; subst e2; exact k

theorem Ops.rngS {x : Operand} {s : ByteArray} (hx : get l x = some (.string s)) (k : ∀ b, Ops P F es ((d, .pointer (some ⟨b, 0, none⟩)) :: l) (.pt b (.stringIter s 0) :: H) C) : Ops P F (EG.mk i (some d) none false (.rngS x) :: es) l H C :=
  Ops.fresh (fun ρ a => by simp only [freshRun]; rw [a _ _ hx]) k

theorem Ops.nxtS {x : Operand} {b pos : Nat} {s : ByteArray} {H1 : List HA} (hx : get l x = some (.pointer (some ⟨b, 0, none⟩))) (up : Upd H (.pt b (.stringIter s pos)) (.pt b (.stringIter s (pos + (Utf8.decode s pos).2))) H1)
    (k1 : pos < s.size → Ops P F es ((d, .tuple [.bool true, .int .i64 pos, .int .i32 (Utf8.decode s pos).1].toArray) :: l) H1 C) (k2 : s.size ≤ pos → Ops P F es ((d, .tuple [.bool false].toArray) :: l) H C) : Ops P F (EG.mk i (some d) none false (.nxtS x) :: es) l H C := by
  by_cases hp : pos < s.size
  · exact Ops.busy (R := fun v' H2 => v' = .tuple [.bool true, .int .i64 pos, .int .i32 (Utf8.decode s pos).1].toArray ∧ H2 = H1) (fun F' ex w h ρ a q f => ⟨b, s, pos, a _ _ hx, f.own _ _ (seps_mem_pt up.mem q), by
        rw [if_pos hp]; exact ⟨H1, _, ⟨rfl, rfl⟩, seps_upd up q, f.set (seps_mem_pt up.mem q), Keeps.setBlk w b _⟩⟩)
      fun v' H2 ⟨e1, e2⟩ => by subst e1; subst e2; exact k1 hp
  · exact Ops.busy (R := fun v' H2 => v' = .tuple [.bool false].toArray ∧ H2 = H) (fun F' ex w h ρ a q f => ⟨b, s, pos, a _ _ hx, f.own _ _ (seps_mem_pt up.mem q), by
        rw [if_neg hp]; exact ⟨H, h, ⟨rfl, rfl⟩, q, f, Keeps.refl w⟩⟩)
      fun v' H2 ⟨e1, e2⟩ => by subst e1; subst e2; exact k2 (by omega)

/-- a range over a map: which of its entries have come -/
theorem Ops.rngM {x : Operand} {r : Nat} {es' : List MapEntry} {ck : Nat} (hx : get l x = some (.map (some r))) (m : HA.pt r (.map es'.toArray ck) ∈ H ∨ F r = some (.map es'.toArray ck))
    (k : ∀ b, Ops P F es ((d, .pointer (some ⟨b, 0, none⟩)) :: l) (.pt b (.mapIter (some r) ck (List.toArray []) ck) :: H) C) : Ops P F (EG.mk i (some d) none false (.rngM x) :: es) l H C :=
  Ops.busy (R := fun v' H2 => ∃ b, v' = .pointer (some ⟨b, 0, none⟩) ∧ H2 = .pt b (.mapIter (some r) ck (List.toArray []) ck) :: H) (fun F' ex w h ρ a q f => .inr ⟨r, es'.toArray, ck, a _ _ hx, by
      rcases m with m | m
      · exact f.own _ _ (seps_mem_pt m q)
      · exact f.frm _ _ (ex _ _ m), ⟨_, _, ⟨_, rfl, rfl⟩, seps_new _ q f.fresh.1, f.new _, Keeps.newBlk w _⟩⟩)
    fun v' H2 ⟨b, e1, e2⟩ => by subst e1; subst e2; exact k b

theorem Ops.rngMN {x : Operand} (hx : get l x = some (.map none)) (k : ∀ b, Ops P F es ((d, .pointer (some ⟨b, 0, none⟩)) :: l) (.pt b (.mapIter none 0 (List.toArray []) 0) :: H) C) : Ops P F (EG.mk i (some d) none false (.rngM x) :: es) l H C :=
  Ops.busy (R := fun v' H2 => ∃ b, v' = .pointer (some ⟨b, 0, none⟩) ∧ H2 = .pt b (.mapIter none 0 (List.toArray []) 0) :: H) (fun F' ex w h ρ a q f => .inl ⟨a _ _ hx, ⟨_, _, ⟨_, rfl, rfl⟩, seps_new _ q f.fresh.1, f.new _, Keeps.newBlk w _⟩⟩)
    fun v' H2 ⟨b, e1, e2⟩ => by subst e1; subst e2; exact k b

theorem Ops.nxtM {x : Operand} {b r since last ck : Nat} {seen : List Nat} {es' : List MapEntry} {H1 : MapEntry → List HA} (hx : get l x = some (.pointer (some ⟨b, 0, none⟩))) (m : HA.pt r (.map es'.toArray ck) ∈ H ∨ F r = some (.map es'.toArray ck))
    (h1 : since ≤ last) (h2 : ∀ e ∈ es', e.born < since) (up : ∀ e, Upd H (.pt b (.mapIter (some r) since seen.toArray last)) (.pt b (.mapIter (some r) since (seen ++ [e.born]).toArray ck)) (H1 e))
    (k1 : ∀ e ∈ es', seen.contains e.born = false → Ops P F es ((d, .tuple [.bool true, e.key, e.val].toArray) :: l) (H1 e) C) (k2 : (∀ e ∈ es', seen.contains e.born = true) → Ops P F es ((d, .tuple [.bool false].toArray) :: l) H C) :
    Ops P F (EG.mk i (some d) none false (.nxtM x) :: es) l H C :=
  Ops.busy (R := fun v' H2 => (∃ e ∈ es', seen.contains e.born = false ∧ v' = .tuple [.bool true, e.key, e.val].toArray ∧ H2 = H1 e) ∨ ((∀ e ∈ es', seen.contains e.born = true) ∧ v' = .tuple [.bool false].toArray ∧ H2 = H))
    (fun F' ex w h ρ a q f => by
      have hm : w.heap[r]? = some (.map es'.toArray ck) := by
        rcases m with m | m
        · exact f.own _ _ (seps_mem_pt m q)
        · exact f.frm _ _ (ex _ _ m)
      refine ⟨b, a _ _ hx, .inr ⟨r, since, seen, last, es', ck, ?_, hm, h1, h2, fun w' hw => ?_⟩⟩
      · cases es' with
        | nil => exact f.own _ _ (seps_mem_pt (up ⟨undef, undef, 0⟩).mem q)
        | cons e _ => exact f.own _ _ (seps_mem_pt (up e).mem q)
      · have hf : Fits F' h w' := by rcases hw with rfl | rfl; exact f; exact f.drew
        have hk : Keeps w w' := by rcases hw with rfl | rfl; exact Keeps.refl _; exact Keeps.drew _
        exact ⟨fun e he hs => ⟨H1 e, _, .inl ⟨e, he, hs, rfl, rfl⟩, seps_upd (up e) q, hf.set (seps_mem_pt (up e).mem q), hk.trans (Keeps.setBlk w' b _)⟩, fun hall => ⟨H, h, .inr ⟨hall, rfl, rfl⟩, q, hf, hk⟩⟩)
    fun v' H2 h => by
      rcases h with ⟨e, he, hs, rfl, rfl⟩ | ⟨hall, rfl, rfl⟩
      · exact k1 e he hs
      · exact k2 hall

theorem Ops.nxtMN {x : Operand} {b : Nat} (hx : get l x = some (.pointer (some ⟨b, 0, none⟩))) (m : HA.pt b (.mapIter none 0 (List.toArray []) 0) ∈ H) (k : Ops P F es ((d, .tuple [.bool false].toArray) :: l) H C) : Ops P F (EG.mk i (some d) none false (.nxtM x) :: es) l H C :=
  Ops.reads (fun ρ w h Q a q f r => ⟨b, a _ _ hx, .inl ⟨0, #[], 0, f.own _ _ (seps_mem_pt m q), r⟩⟩) k

theorem Ops.ent {x : Operand} {b r since ck : Nat} {seen : List Nat} {es' : List MapEntry} {e : MapEntry} (hx : get l x = some (.pointer (some ⟨b, 0, none⟩))) (mi : HA.pt b (.mapIter (some r) since (seen ++ [e.born]).toArray ck) ∈ H)
    (m : HA.pt r (.map es'.toArray ck) ∈ H ∨ F r = some (.map es'.toArray ck)) (hf : es'.find? (fun x => x.born == e.born) = some e) (k : Ops P F es ((d, .tuple [e.key, e.val].toArray) :: l) H C) : Ops P F (EG.mk i (some d) none false (.ent x) :: es) l H C :=
  Ops.busy (R := fun v' H2 => v' = .tuple [e.key, e.val].toArray ∧ H2 = H) (fun F' ex w h ρ a q f => ⟨b, r, since, seen ++ [e.born], es', ck, e.born, e, a _ _ hx, f.own _ _ (seps_mem_pt mi q), by simp, by
      rcases m with m | m
      · exact f.own _ _ (seps_mem_pt m q)
      · exact f.frm _ _ (ex _ _ m), hf, ⟨H, h, ⟨rfl, rfl⟩, q, f, Keeps.refl w⟩⟩)
    fun v' H2 ⟨e1, e2⟩ => by subst e1; subst e2; exact k

/-- a method is called through an interface -/
theorem Ops.inv {dd : Option Nat} {name : String} {recv : Operand} {args : List Operand} {vs : List Value} {t e : TypeId} {v : Value} {ti : TypeInfo} {m : Method} {g : FuncId} {fn : Func} {Pre Rest : List HA} {R : Value → List HA → Prop} (hr : get l recv = some (.iface t v)) (ha : getL l args = some vs)
    (hi : P.info? t = some ti) (hm : ti.methods.find? (fun m => m.name == name) = some m) (hp : m.path = #[]) (hmf : m.func = some (g, true)) (ht : P.underlying t = some (.pointer e)) (hf : P.funcs[g]? = some fn) (hb : fn.body.isSome = true) (hn : (fn.name == "runtime.NumGoroutine") = false)
    (tk : Take H Pre Rest) (sp : ∀ F', Ext F F' → Known Rest F' → Spec P g (v :: vs).toArray F' Pre R) (k : ∀ v G, R v G → Ops P F es (putD dd l v) (G ++ Rest) C) :
    Ops P F (EG.mk i dd none false (.inv name recv args.toArray) :: es) l H C :=
  Ops.busy (R := fun v H' => ∃ G, R v G ∧ H' = G ++ Rest)
    (fun F' ex w h ρ a q f => by
      refine ⟨t, v, ti, m, g, e, fn, a _ _ hr, hi, hm, hp, hmf, ht, hf, hb, hn, ?_⟩
      have : #[v] ++ args.toArray.map ρ = (v :: vs).toArray := by rw [← getL_sound a ha]; simp
      rw [this]
      refine (Spec.frame tk (fun F2 e k => sp F2 (ex.trans e) k) w h q f).mono ?_
      rintro e w' ⟨v, H', h', he, r, q', f', kp⟩
      exact ⟨v, H', h', he, r, q', f', kp⟩)
    fun v H' ⟨G, r, e⟩ => by subst e; exact k v G r
end
end Eng
end Go.Proofs.YtnfomoeicgdkkaaGreatDoor
