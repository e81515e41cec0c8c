/- Code with its regions resolved, and what is to do (Run). -/
import Derived.Test.YtbhlolmglieehaaEngO
set_option linter.unusedSimpArgs false
set_option linter.unusedVariables false
namespace Go.Proofs.Ytbhlolmglieehaa
namespace Eng

def pairsB {α : Type} (r : α → α → Bool) : List α → Bool
  | [] => true
  | p :: l => l.all (r p) && pairsB r l

theorem pairsB_sound {α : Type} {r : α → α → Bool} {l : List α} (h : pairsB r l = true) : l.Pairwise fun p q => r p q = true := by
  induction l with
  | nil => exact .nil
  | cons p l ih =>
    simp only [pairsB, Bool.and_eq_true, List.all_eq_true] at h
    exact .cons h.1 (ih h.2)

def compileList (P : Program) (n : Nat) (ops : Array Oper) : Nat → List Oper → Option (List EG)
  | _, [] => some []
  | i, o :: r => match compileG P n ops i o with
    | none => none
    | some e => match compileList P n ops (i + 1) r with
      | none => none
      | some es => some (e :: es)

theorem compileG_idx {P : Program} {n : Nat} {ops : Array Oper} {i : Nat} {o : Oper} {e : EG} (h : compileG P n ops i o = some e) : e.idx = i ∧ e.calm = false := by
  unfold compileG at h
  split at h
  · cases h
  · split at h
    · split at h
      · cases h; exact ⟨rfl, rfl⟩
      · split at h
        · cases h; exact ⟨rfl, rfl⟩
        · cases h
    · cases h

theorem compileList_sound {P : Program} {n : Nat} {ops : Array Oper} : ∀ (l : List Oper) (i : Nat) (es : List EG), compileList P n ops i l = some es → (∀ k, l[k]? = ops[i + k]?) →
    es.length = l.length ∧ ∀ k e, es[k]? = some e → e.idx = i + k ∧ From P n ops e := by
  intro l
  induction l with
  | nil => intro i es h _; cases h; exact ⟨rfl, fun k e x => by simp at x⟩
  | cons o l ih =>
    intro i es h hl
    simp only [compileList] at h
    split at h
    · cases h
    · rename_i e he
      split at h
      · cases h
      · rename_i es' hes
        cases h
        have ⟨h1, h2⟩ := ih (i + 1) es' hes (fun k => by have := hl (k + 1); simpa [Nat.add_assoc, Nat.add_comm 1 k] using this)
        refine ⟨by simp [h1], fun k x hx => ?_⟩
        cases k with
        | zero =>
          simp at hx; subst hx
          have hi := compileG_idx he
          refine ⟨hi.1, o, ?_, ?_⟩
          · rw [hi.1]; simpa using (hl 0).symm
          · obtain ⟨x1, x2, x3, x4, x5⟩ := e
            simp only at hi
            obtain ⟨rfl, rfl⟩ := hi
            exact he
        | succ k =>
          have := h2 k x (by simpa using hx)
          exact ⟨by rw [this.1]; omega, this.2⟩

def withCalm (es : List EG) (p : Nat × Bool) : EG := { es.getD p.1 default with calm := p.2 }

def ancB (ops : Array Oper) (p q : EG) : Bool := ((msOf ops).getD q.idx 0).testBit p.idx

def drawOK (ops : Array Oper) (plan : List (List (Nat × Bool))) (segs : List (List EG)) : Bool :=
  let flat := segs.flatten
  ((List.range ops.size).all fun i => (edgesOf ops i).all fun x => decide (x < ops.size)) &&
  (plan.flatten.all fun p => decide (p.1 < ops.size)) && ((List.range ops.size).all fun i => flat.any fun e => e.idx == i) &&
  pairsB (fun p q => !(p == q)) (flat.map (·.idx)) && decide (flat.length ≤ ops.size) &&
  pairsB (fun p q => !(edgesOf ops p.idx).contains q.idx) flat && (flat.all fun e => !(edgesOf ops e.idx).contains e.idx) &&
  (segs.all fun s => pairsB (fun p q => ancB ops p q || (p.calm && indep p q && notRaw p.op && notRaw q.op)) s) &&
  pairsB (fun s r => s.all fun p => r.all fun q => ancB ops p q || (p.calm && pureKind p.op && indep p q && notRaw p.op && notRaw q.op)) segs

def planOf (ops : Array Oper) (es : List EG) : List (List (Nat × Bool)) :=
  let ms := msOf ops
  let ck := fun i => calmKind (es.getD i default).op
  let ord := orderOf ms (fun i => pureKind (es.getD i default).op) ck es.length (List.range es.length) 0
  (cutSegs ms (fun i => !pureKind (es.getD i default).op) ord [] 0).map fun s =>
    -- a group with one operation that asks or turns the world needs no calm but that of what asks nothing
    if (s.filter fun i => !pureKind (es.getD i default).op).length ≤ 1 then s.map fun i => (i, pureKind (es.getD i default).op) else s.map fun i => (i, ck i)

def compileReg (P : Program) (n : Nat) (ops : Array Oper) (draw : Bool) : Option (List (List EG)) :=
  match compileList P n ops 0 ops.toList with
  | none => none
  | some es =>
    if draw = false then some [es] else
      let plan := planOf ops es
      let segs := plan.map fun s => s.map (withCalm es)
      if drawOK ops plan segs = true ∧ (P.follows .mixedOrders || !Region.departs ops) = true then some segs else none

section
variable {P : Program} {f : FuncId} {K : List Item} {Z : Ending → World → Prop}

theorem reg_goes {n : Nat} {ops : Array Oper} {draw : Bool} {segs : List (List EG)} {id : Nat} (hc : compileReg P n ops draw = some segs) {F : Hp} {C : Fr → List HA → Prop} {w0 : World} (hresp : Respects C)
    (hC : ∀ l H a w h, C l H → FrOk n l a → seps H h → Fits F h w → Keeps w0 w → Goes P f K a w Z)
    {l : Fr} {H : List HA} {a : Act} {w : World} {h : Hp} (s : Segs P F segs l H C) (fa : FrOk n l a) (q : seps H h) (fw : Fits F h w) (k : Keeps w0 w) :
    Goes P f (.code (.region id ops draw) :: K) a w Z := by
  unfold compileReg at hc
  split at hc
  · cases hc
  · rename_i es hes
    have ⟨hlen, hfrom⟩ := compileList_sound ops.toList 0 es hes (fun k => by simp)
    split at hc
    · rename_i hd
      subst hd
      cases hc
      refine Goes.region ?_
      have hidx : List.range ops.size = es.map (·.idx) := by
        apply List.ext_getElem?
        intro i
        rw [List.getElem?_map]
        cases he : es[i]? with
        | none =>
          have : es.length ≤ i := List.getElem?_eq_none_iff.1 he
          rw [List.getElem?_eq_none (by simp at hlen ⊢; omega)]; rfl
        | some e =>
          have h1 := (hfrom i e he).1
          have h2 : i < es.length := by
            rcases Nat.lt_or_ge i es.length with h3 | h3
            · exact h3
            · rw [List.getElem?_eq_none h3] at he; cases he
          rw [List.getElem?_range (by simp at hlen; omega)]; simp [h1]
      have hall : ∀ e ∈ es, From P n ops e := by
        intro e he
        obtain ⟨i, hi⟩ := List.getElem?_of_mem he
        exact (hfrom i e hi).2
      rw [hidx]
      rcases s with o | ⟨S, M, tk, body⟩
      · exact text_goes (C := fun l' M' => C l' M') (F := F) (w0 := w0) hC es l H a w h hall o fa q fw k
      obtain ⟨F', hm, hs, ext, kn, qm, fm, rfl, hdis, qs⟩ := tk.frame q fw
      have o := body _ ext kn
      refine text_goes (C := fun l' M' => C l' (S ++ M')) (F := join F hs) (w0 := w0) ?_ es l M a w hm hall o fa qm fm k
      intro l' M' a' w' h' c fa' q' fw' k'
      have ⟨k2, s2⟩ := fw'.unsplit hdis
      exact hC l' (S ++ M') a' w' _ c fa' (seps_append.2 ⟨hs, h', s2.symm, qs, q'⟩) k2 k'
    · rename_i hd
      have hd' : draw = true := by cases draw <;> simp_all
      subst hd'
      simp only at hc
      split at hc
      · rename_i hok
        cases hc
        obtain ⟨hok, hmix⟩ := hok
        unfold drawOK at hok
        simp only [Bool.and_eq_true] at hok
        obtain ⟨⟨⟨⟨⟨⟨⟨⟨c2, c3⟩, c4⟩, c5⟩, c6⟩, c7⟩, c8⟩, c10⟩, c11⟩ := hok
        have hr : ∀ i, ∀ x ∈ edgesOf ops i, x < ops.size := by
          intro i x hx
          by_cases hi : i < ops.size
          · have := List.all_eq_true.1 (List.all_eq_true.1 c2 i (List.mem_range.2 hi)) x hx
            simpa using this
          · unfold edgesOf at hx
            rw [Array.getElem?_eq_none (by omega)] at hx
            cases hx
        have hfr : ∀ p ∈ (planOf ops es).flatten, From P n ops (withCalm es p) ∧ (withCalm es p).idx = p.1 := by
          intro p hp
          have hlt : p.1 < ops.size := by simpa using List.all_eq_true.1 c3 p hp
          have hlt' : p.1 < es.length := by simp at hlen; omega
          have hg : es[p.1]? = some es[p.1] := List.getElem?_eq_getElem hlt'
          have hgd : es.getD p.1 default = es[p.1] := by simp [List.getD_eq_getElem?_getD, hg]
          have := hfrom p.1 es[p.1] hg
          refine ⟨?_, ?_⟩
          · obtain ⟨o, ho, hco⟩ := this.2
            refine ⟨o, ?_, ?_⟩
            · simp only [withCalm, hgd]; exact ho
            · simp only [withCalm, hgd]; exact hco
          · simp only [withCalm, hgd]; rw [this.1]; omega
        have hmem : ∀ s ∈ (planOf ops es).map (fun s => s.map (withCalm es)), ∀ e ∈ s, From P n ops e := by
          intro s hs e he
          obtain ⟨s', hs', rfl⟩ := List.mem_map.1 hs
          obtain ⟨p, hp, rfl⟩ := List.mem_map.1 he
          exact (hfr p (List.mem_flatten.2 ⟨s', hs', hp⟩)).1
        have hflatlt : ∀ e ∈ ((planOf ops es).map (fun s => s.map (withCalm es))).flatten, e.idx < ops.size := by
          intro e he
          obtain ⟨s, hs, he'⟩ := List.mem_flatten.1 he
          obtain ⟨s', hs', rfl⟩ := List.mem_map.1 hs
          obtain ⟨p, hp, rfl⟩ := List.mem_map.1 he'
          have h1 := hfr p (List.mem_flatten.2 ⟨s', hs', hp⟩)
          rw [h1.2]
          simpa using List.all_eq_true.1 c3 p (List.mem_flatten.2 ⟨s', hs', hp⟩)
        have gok : GOK P n ops ((planOf ops es).map (fun s => s.map (withCalm es))) := by
          refine ⟨hmem, fun s hs => ?_, ?_⟩
          · refine (pairsB_sound (List.all_eq_true.1 c10 s hs)).imp fun {p q} h => ?_
            simp only [Bool.or_eq_true, Bool.and_eq_true] at h
            rcases h with h | ⟨⟨⟨h1, h2⟩, h3⟩, h4⟩
            · exact .inl h
            · exact .inr ⟨h1, indep_sound h2, h3, h4⟩
          · refine (pairsB_sound c11).imp fun {s r} h p hp q hq => ?_
            have := List.all_eq_true.1 (List.all_eq_true.1 h p hp) q hq
            simp only [Bool.or_eq_true, Bool.and_eq_true] at this
            rcases this with h | ⟨⟨⟨⟨h1, h2⟩, h3⟩, h4⟩, h5⟩
            · exact .inl h
            · exact .inr ⟨h1, h2, indep_sound h3, h4, h5⟩
        have inv : Inv ops (Array.replicate ops.size false) ((planOf ops es).map (fun s => s.map (withCalm es))).flatten := by
          refine ⟨by simp, fun i hi => ?_, ?_, hflatlt, fun i hi hl => ?_, ?_, ?_⟩
          · constructor
            · intro _
              have := List.all_eq_true.1 c4 i (List.mem_range.2 hi)
              obtain ⟨e, he, h1⟩ := List.any_eq_true.1 this
              exact ⟨e, he, by simpa using h1⟩
            · intro _; simp [Array.getD, hi]
          · refine (pairsB_sound c5).imp fun {p q} h => ?_
            simpa using h
          · simp [Array.getD, hi] at hl
          · refine (pairsB_sound c7).imp fun {p q} h => ?_
            simpa using h
          · intro e he
            have := List.all_eq_true.1 c8 e he
            simpa using this
        refine Goes.region_draw fun t => ?_
        have hsch : Region.schedule (P.follows .mixedOrders) ops t = Region.linearise.go .any ops ops.size t (Array.replicate ops.size false) [] := by
          unfold Region.schedule Region.linearise
          rw [hmix]; rfl
        rw [hsch]
        have hflen : ((planOf ops es).map (fun s => s.map (withCalm es))).flatten.length ≤ ops.size := by simpa using c6
        have inv2 : Inv ops (Array.replicate ops.size false) ([] ++ ((planOf ops es).map (fun s => s.map (withCalm es))).flatten) := inv
        exact all_goes hr (w0 := w0) (F := F) (C := C) hresp hC ops.size _ F [] [] l H t _ a _ h (fun M' h' w' a b => ⟨h', a, b⟩) (fun e he => by cases he) .nil (fun s hs p hp => by cases hp) gok inv2 hflen s fa q fw.drew (k.trans (Keeps.drew w))
      · cases hc
end

def compile (P : Program) (n : Nat) : Code → Option EC
  | .skip => some .skip
  | .seq a b => match compile P n a, compile P n b with
    | some x, some y => some (.seq x y)
    | _, _ => none
  | .cond c a b => match compile P n a, compile P n b with
    | some x, some y => some (.cond c x y)
    | _, _ => none
  | .block i b => (compile P n b).map (.block i)
  | .loop b => (compile P n b).map .loop
  | .exit i => some (.exit i)
  | .ret => some .ret
  | .region _ ops draw => (compileReg P n ops draw).map .reg
  | _ => none


inductive EI where
  | code (c : EC)
  | blk (id : Nat)
  | lp (c : EC)
  deriving Inhabited

inductive IRel (P : Program) (n : Nat) : List EI → List Item → Prop where
  | nil : IRel P n [] []
  | code {c c' K K'} : compile P n c' = some c → IRel P n K K' → IRel P n (.code c :: K) (.code c' :: K')
  | blk {i K K'} : IRel P n K K' → IRel P n (.blk i :: K) (.inBlock i :: K')
  | lp {c c' K K'} : compile P n c' = some c → IRel P n K K' → IRel P n (.lp c :: K) (.inLoop c' :: K')

def exitE (id : Nat) : List EI → Option (List EI)
  | .blk i :: K => bif Nat.beq i id then some K else exitE id K
  | _ :: K => exitE id K
  | [] => none

theorem exitE_sound {P : Program} {n i : Nat} {K : List EI} {K' : List Item} (r : IRel P n K K') : ∀ {K2 : List EI}, exitE i K = some K2 → ∃ K2', exitTo i K' = some K2' ∧ IRel P n K2 K2' := by
  induction r with
  | nil => intro K2 h; cases h
  | code _ _ ih => intro K2 h; exact ih h
  | lp _ _ ih => intro K2 h; exact ih h
  | @blk j K K' r ih =>
    intro K2 h
    simp only [exitE] at h
    by_cases hj : j = i
    · subst hj
      have : Nat.beq j j = true := by simp
      rw [this] at h
      cases h
      exact ⟨K', by simp [exitTo], r⟩
    · have : Nat.beq j i = false := by
        cases hb : Nat.beq j i with
        | false => rfl
        | true => exact absurd (Nat.eq_of_beq_eq_true hb) hj
      rw [this] at h
      obtain ⟨K2', h1, h2⟩ := ih h
      exact ⟨K2', by simp [exitTo, hj, h1], h2⟩

/-- From here (what is to do, what is known of the temporaries, what is owned) the function comes to its end with a value and memory as R says. -/
def Run (P : Program) (f : FuncId) (n : Nat) (F : Hp) (K : List EI) (l : Fr) (H : List HA) (R : Value → List HA → Prop) : Prop :=
  ∀ K' w0 w h a, IRel P n K K' → seps H h → Fits F h w → FrOk n l a → Keeps w0 w →
    Goes P f K' a w fun e w' => ∃ v H' h', e = .returned v ∧ R v H' ∧ seps H' h' ∧ Fits F h' w' ∧ Keeps w0 w'

section
variable {P : Program} {f : FuncId} {n : Nat} {F : Hp} {K : List EI} {l : Fr} {H : List HA} {R : Value → List HA → Prop}

theorem Run.eq {l' : Fr} (e : FrEq l l') (r : Run P f n F K l H R) : Run P f n F K l' H R :=
  fun K' w0 w h a i q fw fa k => r K' w0 w h a i q fw (fa.eq fun t => (e t).symm) k

/-- less known of the temporaries -/
theorem Run.sub {l' : Fr} (e : FrSub l l') (r : Run P f n F K l' H R) : Run P f n F K l H R :=
  fun K' w0 w h a i q fw fa k => r K' w0 w h a i q fw (fa.sub e) k

theorem Run.mono {R' : Value → List HA → Prop} (h : ∀ v H', R v H' → R' v H') (r : Run P f n F K l H R) : Run P f n F K l H R' :=
  fun K' w0 w hh a i q fw fa k => (r K' w0 w hh a i q fw fa k).mono fun _ _ ⟨v, H', h', e, x, y⟩ => ⟨v, H', h', e, h _ _ x, y⟩

theorem compile_inv {c : EC} {c' : Code} (h : compile P n c' = some c) : match c with
    | .skip => c' = .skip
    | .seq a b => ∃ a' b', c' = .seq a' b' ∧ compile P n a' = some a ∧ compile P n b' = some b
    | .cond x a b => ∃ a' b', c' = .cond x a' b' ∧ compile P n a' = some a ∧ compile P n b' = some b
    | .block i b => ∃ b', c' = .block i b' ∧ compile P n b' = some b
    | .loop b => ∃ b', c' = .loop b' ∧ compile P n b' = some b
    | .exit i => c' = .exit i
    | .ret => c' = .ret
    | .reg s => ∃ id ops draw, c' = .region id ops draw ∧ compileReg P n ops draw = some s := by
  cases c' with
  | skip => cases h; rfl
  | seq a b =>
    simp only [compile] at h
    split at h
    · rename_i x y hx hy; cases h; exact ⟨_, _, rfl, hx, hy⟩
    · cases h
  | cond x a b =>
    simp only [compile] at h
    split at h
    · rename_i x y hx hy; cases h; exact ⟨_, _, rfl, hx, hy⟩
    · cases h
  | block i b =>
    simp only [compile] at h
    cases hb : compile P n b with
    | none => rw [hb] at h; cases h
    | some x => rw [hb] at h; cases h; exact ⟨_, rfl, hb⟩
  | loop b =>
    simp only [compile] at h
    cases hb : compile P n b with
    | none => rw [hb] at h; cases h
    | some x => rw [hb] at h; cases h; exact ⟨_, rfl, hb⟩
  | exit i => cases h; rfl
  | ret => cases h; rfl
  | region id ops draw =>
    simp only [compile] at h
    cases hb : compileReg P n ops draw with
    | none => rw [hb] at h; cases h
    | some x => rw [hb] at h; cases h; exact ⟨_, _, _, rfl, hb⟩
  | _ => cases h

theorem Run.skip (r : Run P f n F K l H R) : Run P f n F (.code .skip :: K) l H R := by
  intro K' w0 w h a i q fw fa k
  cases i with
  | code hc i => have := compile_inv hc; simp only at this; subst this; exact Goes.skip (r _ _ _ _ _ i q fw fa k)

theorem Run.seq {x y : EC} (r : Run P f n F (.code x :: .code y :: K) l H R) : Run P f n F (.code (.seq x y) :: K) l H R := by
  intro K' w0 w h a i q fw fa k
  cases i with
  | code hc i => obtain ⟨x', y', rfl, hx, hy⟩ := compile_inv hc; exact Goes.seq (r _ _ _ _ _ (.code hx (.code hy i)) q fw fa k)

theorem Run.block {id : Nat} {x : EC} (r : Run P f n F (.code x :: .blk id :: K) l H R) : Run P f n F (.code (.block id x) :: K) l H R := by
  intro K' w0 w h a i q fw fa k
  cases i with
  | code hc i => obtain ⟨x', rfl, hx⟩ := compile_inv hc; exact Goes.block (r _ _ _ _ _ (.code hx (.blk i)) q fw fa k)

theorem Run.blk {id : Nat} (r : Run P f n F K l H R) : Run P f n F (.blk id :: K) l H R := by
  intro K' w0 w h a i q fw fa k
  cases i with
  | blk i => exact Goes.inBlock (r _ _ _ _ _ i q fw fa k)

theorem Run.loop {x : EC} (r : Run P f n F (.code x :: .lp x :: K) l H R) : Run P f n F (.code (.loop x) :: K) l H R := by
  intro K' w0 w h a i q fw fa k
  cases i with
  | code hc i => obtain ⟨x', rfl, hx⟩ := compile_inv hc; exact Goes.loop (r _ _ _ _ _ (.code hx (.lp hx i)) q fw fa k)

/-- a round's end is the loop's begin -/
theorem Run.lp {x : EC} (r : Run P f n F (.code (.loop x) :: K) l H R) : Run P f n F (.lp x :: K) l H R := by
  intro K' w0 w h a i q fw fa k
  cases i with
  | lp hc i =>
    rename_i c' K'
    have hl : compile P n (.loop c') = some (.loop x) := by simp [compile, hc]
    have g := r (.code (.loop c') :: K') w0 w h a (.code hl i) q fw fa k
    intro b cs hb hk
    obtain ⟨e, w', fr, z, c, rest⟩ := g b cs hb hk
    refine ⟨e, w', fr, z, ?_, rest⟩
    cases e with
    | returned v =>
      obtain ⟨m, hm⟩ := c
      cases m with
      | zero =>
        simp only [runN] at hm
        obtain ⟨e1, z2⟩ := z
        have hfr : lone (b.at a (.code (.loop c') :: K')) cs w = lone fr cs w' := by
          injection hm
        exfalso
        simp only [lone, Machine.mk.injEq] at hfr
        have h2 := congrArg (fun g => g[0]?) hfr.2.1
        simp at h2
        have := rest.2.1
        rw [← h2] at this
        simp [Frame.at] at this
      | succ m =>
        refine ⟨m + 1, ?_⟩
        simp only [runN] at hm ⊢
        rw [step_loop] at hm
        rw [step_inLoop]; exact hm
    | panicked ch => obtain ⟨v, _, _, he, _⟩ := z; cases he
    | outgrown => obtain ⟨v, _, _, he, _⟩ := z; cases he

theorem Run.cond {c : Operand} {x y : EC} {t : Bool} (hc : get l c = some (.bool t)) (h1 : t = true → Run P f n F (.code x :: K) l H R) (h2 : t = false → Run P f n F (.code y :: K) l H R) :
    Run P f n F (.code (.cond c x y) :: K) l H R := by
  intro K' w0 w h a i q fw fa k
  cases i with
  | code hcc i =>
    obtain ⟨x', y', rfl, hx, hy⟩ := compile_inv hcc
    refine Goes.cond (fa.agrees _ _ hc) ?_
    cases t with
    | true => exact h1 rfl _ _ _ _ _ (.code hx i) q fw fa k
    | false => exact h2 rfl _ _ _ _ _ (.code hy i) q fw fa k

theorem Run.exit {id : Nat} {K2 : List EI} (he : exitE id K = some K2) (r : Run P f n F K2 l H R) : Run P f n F (.code (.exit id) :: K) l H R := by
  intro K' w0 w h a i q fw fa k
  cases i with
  | code hc i =>
    have := compile_inv hc; simp only at this; subst this
    obtain ⟨K2', h1, h2⟩ := exitE_sound i he
    exact Goes.exit h1 (r _ _ _ _ _ h2 q fw fa k)

theorem Run.reg {segs : List (List EG)} (s : Segs P F segs l H fun l' H' => Run P f n F K l' H' R) : Run P f n F (.code (.reg segs) :: K) l H R := by
  intro K' w0 w h a i q fw fa k
  cases i with
  | code hc i =>
    obtain ⟨id, ops, draw, rfl, hr⟩ := compile_inv hc
    exact reg_goes hr (w0 := w0) (fun l l' H e x => x.eq e) (fun l' H' a' w' h' c fa' q' fw' k' => c _ w0 w' h' a' i q' fw' fa' k') s fa q fw k

/-- what is owned may be put otherwise -/
theorem Run.conseq {H' : List HA} (e : ∀ h, seps H h → seps H' h) (r : Run P f n F K l H' R) : Run P f n F K l H R :=
  fun K' w0 w h a i q fw fa k => r K' w0 w h a i (e h q) fw fa k

/-- a named group is opened -/
theorem Run.open_ {I : List HA → Prop} {H' : List HA} (s : Sel H (grp I) H') (r : ∀ G, I G → Run P f n F K l (G ++ H') R) : Run P f n F K l H R := by
  intro K' w0 w h a i q fw fa k
  obtain ⟨x, y, sp, hx, hy⟩ := s.sound q
  obtain ⟨G, hG, qG⟩ := hx
  exact r G hG K' w0 w h a i (seps_append.2 ⟨x, y, sp, qG, hy⟩) fw fa k

end

/-- the values of the results' variables -/
inductive RV (P : Program) (F : Hp) (l : Fr) (H : List HA) : List ResultVar → List Value → Prop where
  | nil : RV P F l H [] []
  | tmp {t v rs vs} : look l t = some v → RV P F l H rs vs → RV P F l H (.tmp t :: rs) (v :: vs)
  | cell1 {a b o L T' fz T v rs vs} : look l a = some (.pointer (some ⟨b, o, none⟩)) → aggOf P T = some false → (HA.pt b (.cells (List.toArray L) T' fz) ∈ H ∨ F b = some (.cells (List.toArray L) T' fz)) → L[o]? = some v → RV P F l H rs vs →
      RV P F l H (.cell a T :: rs) (v :: vs)
  | celln {a b o L T' fz T i rs vs} : look l a = some (.pointer (some ⟨b, o, none⟩)) → aggOf P T = some true → P.info? T = some i → (HA.pt b (.cells (List.toArray L) T' fz) ∈ H ∨ F b = some (.cells (List.toArray L) T' fz)) → o + i.size ≤ L.length → RV P F l H rs vs →
      RV P F l H (.cell a T :: rs) (.agg ((L.drop o).take i.size).toArray :: vs)

def outOf : List Value → Value
  | [v] => v
  | vs => .tuple vs.toArray

theorem RV.run {P : Program} {F : Hp} {l : Fr} {H : List HA} {fn : Func} {rs : List ResultVar} {vs : List Value} (hfn : fn.results = rs.toArray) (r : RV P F l H rs vs) {n : Nat} {w : World} {h : Hp} {a : Act}
    (q : seps H h) (fw : Fits F h w) (fa : FrOk n l a) : (results fn a.tmps).run P w = .ok (outOf vs) w := by
  have known : ∀ {b : Nat} {L : List Value} {T' : TypeId} {fz : Nat × Nat}, (HA.pt b (.cells L.toArray T' fz) ∈ H ∨ F b = some (.cells L.toArray T' fz)) → w.heap[b]? = some (.cells L.toArray T' fz) := by
    intro b L T' fz hm
    rcases hm with hm | hm
    · exact fw.own _ _ (seps_mem_pt hm q)
    · exact fw.frm _ _ hm
  have key : ∀ (rs : List ResultVar) (vs : List Value), RV P F l H rs vs → ∀ acc : Array Value,
      (rs.foldlM (fun (bs : Array Value) r => bs.push <$> (match r with
        | .tmp t => pure (a.tmps.getD t undef)
        | .cell x t => do loadVar t (← asAddr (a.tmps.getD x undef)) : Sem Value)) acc : Sem _).run P w = .ok (acc ++ vs.toArray) w := by
    intro rs vs r
    induction r with
    | nil => intro acc; simp
    | @tmp t v rs vs hl _ ih =>
      intro acc
      have ht : a.tmps.getD t undef = v := by simp [Array.getD_eq_getD_getElem?, fa.has t v hl]
      rw [List.foldlM_cons, run_bind_ok (a := acc.push v) (w' := w)]
      · rw [ih]; simp
      · simp only [ht]; exact (run_bind_ok (f := fun x => pure (acc.push x)) (x := pure v) rfl).trans rfl
    | @cell1 x b o L T' fz T v rs vs hl ha hm hv _ ih =>
      intro acc
      have ht : a.tmps.getD x undef = .pointer (some ⟨b, o, none⟩) := by simp [Array.getD_eq_getD_getElem?, fa.has x _ hl]
      have hrun : (do loadVar T (← asAddr (a.tmps.getD x undef)) : Sem Value).run P w = .ok v w := by
        rw [ht]
        simp only [asAddr]
        rw [run_bind]; simp only [run_pure']
        unfold loadVar
        rw [run_bind_ok (run_isAgg ha)]
        exact run_load (known hm) hv
      rw [List.foldlM_cons, run_bind_ok (a := acc.push v) (w' := w)]
      · rw [ih]; simp
      · exact (run_bind_ok (f := fun x => pure (acc.push x)) hrun).trans rfl
    | @celln x b o L T' fz T i rs vs hl ha hi hm hv _ ih =>
      intro acc
      have ht : a.tmps.getD x undef = .pointer (some ⟨b, o, none⟩) := by simp [Array.getD_eq_getD_getElem?, fa.has x _ hl]
      have hrun : (do loadVar T (← asAddr (a.tmps.getD x undef)) : Sem Value).run P w = .ok (.agg ((L.drop o).take i.size).toArray) w := by
        rw [ht]
        simp only [asAddr]
        rw [run_bind]; simp only [run_pure']
        unfold loadVar
        rw [run_bind_ok (run_isAgg ha)]
        simp only [if_true]
        rw [run_bind_ok (run_sizeOf hi), run_bind_ok (run_loadCells (known hm) hv)]; rfl
      rw [List.foldlM_cons, run_bind_ok (a := acc.push (.agg ((L.drop o).take i.size).toArray)) (w' := w)]
      · rw [ih]; simp
      · exact (run_bind_ok (f := fun x => pure (acc.push x)) hrun).trans rfl
  unfold results
  have hm : (fn.results.mapM (fun r => (match r with
        | .tmp t => pure (a.tmps.getD t undef)
        | .cell x t => do loadVar t (← asAddr (a.tmps.getD x undef)) : Sem Value))).run P w = .ok vs.toArray w := by
    rw [hfn, Array.mapM_eq_foldlM, ← Array.foldlM_toList]
    have := key rs vs r #[]
    simpa using this
  refine (run_bind_ok (by exact hm)).trans ?_
  simp only [run_pure']
  congr 1
  match vs with
  | [] => rfl
  | [v] => rfl
  | v :: u :: vs => simp [outOf]

section
variable {P : Program} {f : FuncId} {n : Nat} {F : Hp} {K : List EI} {l : Fr} {H : List HA} {R : Value → List HA → Prop}

theorem Run.ret {fn : Func} {rs : List ResultVar} {vs : List Value} {H' : List HA} (hf : P.funcs[f]? = some fn) (hfn : fn.results = rs.toArray) (hv : RV P F l H rs vs) (hH : ∀ h, seps H h → seps H' h) (hR : R (outOf vs) H') :
    Run P f n F (.code .ret :: K) l H R := by
  intro K' w0 w h a i q fw fa k
  cases i with
  | code hc i =>
    have := compile_inv hc; simp only at this; subst this
    exact Goes.ret hf fa.defers (hv.run hfn q fw fa) ⟨_, H', h, rfl, hR, hH h q, fw, k⟩

theorem Run.done {fn : Func} {rs : List ResultVar} {vs : List Value} {H' : List HA} (hf : P.funcs[f]? = some fn) (hfn : fn.results = rs.toArray) (hv : RV P F l H rs vs) (hH : ∀ h, seps H h → seps H' h) (hR : R (outOf vs) H') :
    Run P f n F [] l H R := by
  intro K' w0 w h a i q fw fa k
  cases i with
  | nil => exact Goes.end_ hf fa.defers (hv.run hfn q fw fa) ⟨_, H', h, rfl, hR, hH h q, fw, k⟩

def argFr : Nat → List Value → Fr
  | _, [] => []
  | i, v :: r => (i, v) :: argFr (i + 1) r

theorem look_argFr : ∀ (vs : List Value) (i t : Nat) (v : Value), look (argFr i vs) t = some v → i ≤ t ∧ vs[t - i]? = some v := by
  intro vs
  induction vs with
  | nil => intro i t v h; cases h
  | cons x vs ih =>
    intro i t v h
    simp only [argFr, look_cons] at h
    split at h
    · rename_i e; subst e; simpa using h
    · rename_i e
      have ⟨h1, h2⟩ := ih (i + 1) t v h
      refine ⟨by omega, ?_⟩
      rw [show t - i = (t - (i + 1)) + 1 from by omega]; simpa using h2

def compileFn (P : Program) (fn : Func) : Option EC := match fn.body with
  | some c => compile P fn.ntmps c
  | none => none

/-- A contract by a run of the body. -/
theorem Spec.enter {fn : Func} {ec : EC} {args : List Value} {Pre : List HA} (hf : P.funcs[f]? = some fn) (hc : compileFn P fn = some ec) (hn : fn.ntmps = n) (hs : args.length ≤ n)
    (r : Run P f n F [.code ec] (argFr 0 args) Pre R) : Spec P f args.toArray F Pre R := by
  intro w h q fw
  unfold compileFn at hc
  split at hc
  · rename_i c hb
    subst hn
    refine Calls.mono (calls_of_goes hf hb (r _ w w h _ (.code hc .nil) q fw ?_ (Keeps.refl w))) fun _ _ z => z
    refine ⟨rfl, by simp; omega, fun t v e => ?_⟩
    have ⟨_, h2⟩ := look_argFr args 0 t v e
    simp only [Nat.sub_zero] at h2
    have hlt : t < args.length := by
      rcases Nat.lt_or_ge t args.length with h3 | h3
      · exact h3
      · rw [List.getElem?_eq_none h3] at h2; cases h2
    rw [Array.getElem?_append_left (by simpa using hlt)]
    simpa using h2
  · cases hc
end
end Eng
end Go.Proofs.Ytbhlolmglieehaa
