/- Regions that draw their order: the machine's side. -/
import Derived.Test.YtbhlolmglieehaaEngM
set_option linter.unusedSimpArgs false
set_option linter.unusedVariables false
namespace Go.Proofs.Ytbhlolmglieehaa
namespace Eng

section
variable {P : Program} {f : FuncId} {K : List Item} {Z : Ending → World → Prop}

/-- an operation of a region is what an EG says -/
def From (P : Program) (n : Nat) (ops : Array Oper) (e : EG) : Prop := ∃ o, ops[e.idx]? = some o ∧ compileG P n ops e.idx o = some { e with calm := false }

theorem From.parts {n : Nat} {ops : Array Oper} {e : EG} (h : From P n ops e) : ∃ o, ops[e.idx]? = some o ∧ compileOp P o.op o.type = some e.op ∧ o.dst = e.dst ∧ (∀ d, e.dst = some d → d < n) ∧
    (match o.guard with
     | none => e.guard = none
     | some (j, want) => ∃ s, (ops[j]?).bind (·.dst) = some s ∧ e.guard = some (s, want)) := by
  obtain ⟨o, ho, hc⟩ := h
  unfold compileG at hc
  split at hc
  · cases hc
  · rename_i op hop
    split at hc
    · rename_i hd
      split at hc
      · rename_i hg
        simp only [Option.some.injEq, EG.mk.injEq] at hc
        refine ⟨o, ho, by rw [hop, hc.2.2.2.2], hc.2.1, fun d e' => ?_, by rw [hg]; exact hc.2.2.1.symm⟩
        rw [← hc.2.1] at e'; rw [e'] at hd; simpa [dstOk] using hd
      · rename_i j want hg
        split at hc
        · rename_i s hs
          simp only [Option.some.injEq, EG.mk.injEq] at hc
          refine ⟨o, ho, by rw [hop, hc.2.2.2.2], hc.2.1, fun d e' => ?_, by rw [hg]; exact ⟨s, hs, hc.2.2.1.symm⟩⟩
          rw [← hc.2.1] at e'; rw [e'] at hd; simpa [dstOk] using hd
        · cases hc
    · cases hc

theorem FrOk.putE {n : Nat} {l : Fr} {a : Act} (h : FrOk n l a) {e : EG} (hd : ∀ d, e.dst = some d → d < n) (v : Value) : FrOk n (e.put l v) (a.put e.dst v) := by
  unfold EG.put
  cases he : e.dst with
  | none => exact h
  | some d => exact h.put (hd d he) v

theorem one_goes {F : Hp} {n : Nat} {ops : Array Oper} {e : EG} {l : Fr} {H : List HA} {next : Value → List HA → Prop} {rest : List Nat} {a : Act} {w : World} {h : Hp} (hfrom : From P n ops e)
    (o : One P F e l H next) (fa : FrOk n l a) (q : seps H h) (fw : Fits F h w)
    (hn : ∀ v H' a' w' h', next v H' → FrOk n (e.put l v) a' → seps H' h' → Fits F h' w' → Keeps w w' → Goes P f (.inRegion ops rest :: K) a' w' Z) :
    Goes P f (.inRegion ops (e.idx :: rest) :: K) a w Z := by
  obtain ⟨op, ho, hop, hdst, hd, hg⟩ := hfrom.parts
  have body : Region.wanted op (yielded ops a.tmps) = true → Body P F e l H next → Goes P f (.inRegion ops (e.idx :: rest) :: K) a w Z := by
    intro hw b
    have hρ : ∀ g, a.eval (.func g) = .func (.func g) #[] #[] := fun _ => rfl
    unfold Body at b
    split at b
    · obtain ⟨v, c, nx⟩ := b
      obtain ⟨r, w', hr, e1, e2⟩ := compile_does hρ hop (c w a.eval fa.agrees fw.frm)
      subst e1; subst e2
      exact Goes.op_value ho hw (hr op.dst op.pos op.after op.guard) (hn v H _ _ h nx (by rw [hdst]; exact fa.putE hd v) q fw (Keeps.refl _))
    · obtain ⟨R, c, nx⟩ := b
      obtain ⟨r, w', hr, po⟩ := compile_does hρ hop (c w h a.eval fa.agrees q fw)
      have hrun := hr op.dst op.pos op.after op.guard
      cases r with
      | value v =>
        obtain ⟨M', h', r, q', f', k⟩ := po
        exact Goes.op_value ho hw hrun (hn v M' _ _ h' (nx _ _ r) (by rw [hdst]; exact fa.putE hd v) q' f' k)
      | skip =>
        obtain ⟨M', h', r, q', f', k⟩ := po
        exact Goes.op_done ho hw hrun (hn undef M' _ _ h' (nx _ _ r) (by rw [hdst]; exact fa.putE hd undef) q' f' k)
      | enter g args =>
        refine Goes.op_call ho hw hrun (Calls.mono po ?_)
        rintro e' w2 ⟨v, M', h', he, r, q', f', k⟩
        exact ⟨v, he, hn v M' _ _ h' (nx _ _ r) (by rw [hdst]; exact fa.putE hd v) q' f' k⟩
      | _ => exact po.elim
  unfold One at o
  cases hgo : op.guard with
  | none =>
    rw [hgo] at hg
    simp only at hg
    rw [hg] at o
    exact body (by simp [Region.wanted, hgo]) o
  | some jw =>
    obtain ⟨j, want⟩ := jw
    rw [hgo] at hg
    obtain ⟨s, hs, hge⟩ := hg
    rw [hge] at o
    obtain ⟨v, hl, h1, h2⟩ := o
    have hy : yielded ops a.tmps j = asB v := by
      unfold yielded
      rw [hs]
      simp only [Option.bind_some, fa.has s v hl]
      cases v <;> rfl
    by_cases hw : asB v = some want
    · exact body (by simp [Region.wanted, hgo, hy, hw]) (h1 hw)
    · have hwf : Region.wanted op (yielded ops a.tmps) = false := by simp [Region.wanted, hgo, hy, hw]
      exact Goes.op_skip ho hwf (hn undef H _ _ h (h2 hw) (by rw [hdst]; exact fa.putE hd undef) q fw (Keeps.refl _))

/-- the text's own order -/
theorem text_goes {F : Hp} {n : Nat} {ops : Array Oper} {C : Fr → List HA → Prop} {w0 : World}
    (hC : ∀ l H a w h, C l H → FrOk n l a → seps H h → Fits F h w → Keeps w0 w → Goes P f K a w Z) :
    ∀ (es : List EG) (l : Fr) (H : List HA) (a : Act) (w : World) (h : Hp), (∀ e ∈ es, From P n ops e) → Ops P F es l H C → FrOk n l a → seps H h → Fits F h w → Keeps w0 w →
      Goes P f (.inRegion ops (es.map (·.idx)) :: K) a w Z := by
  intro es
  induction es with
  | nil => intro l H a w h _ o fa q fw k; exact Goes.region_end (hC _ _ _ _ _ o fa q fw k)
  | cons e es ih =>
    intro l H a w h hf o fa q fw k
    rw [Ops.cons_eq] at o
    exact one_goes (hf e (.head _)) o fa q fw fun v H' a' w' h' nx fa' q' fw' k' => ih _ _ _ _ _ (fun x hx => hf x (.tail _ hx)) nx fa' q' fw' (k.trans k')

open Region in
theorem go_acc (ops : Array Oper) : ∀ (fuel t : Nat) (listed : Array Bool) (acc : List Nat), linearise.go .any ops fuel t listed acc = acc.reverse ++ linearise.go .any ops fuel t listed [] := by
  intro fuel
  induction fuel with
  | zero => intro t listed acc; simp [linearise.go]
  | succ fuel ih =>
    intro t listed acc
    simp only [linearise.go]
    split
    · rename_i i hi; rw [ih, ih _ _ [i]]; simp
    · simp

/-- may be listed next -/
def ready (ops : Array Oper) (listed : Array Bool) (i : Nat) : Bool := !listed.getD i true && ((ops[i]?).map (·.after.all fun e => !Region.binds .any e || listed.getD e.on false)).getD false

open Region in
theorem go_step (ops : Array Oper) (fuel t : Nat) (listed : Array Bool) (j : Nat) (hj : j < ops.size) (hr : ready ops listed j = true) :
    ∃ i t', ready ops listed i = true ∧ i < ops.size ∧ linearise.go .any ops (fuel + 1) t listed [] = i :: linearise.go .any ops fuel t' (listed.setIfInBounds i true) [] := by
  have hmem : j ∈ (List.range ops.size).filter (ready ops listed) := by simp [hj, hr]
  have hpos : 0 < ((List.range ops.size).filter (ready ops listed)).length := List.length_pos_of_mem hmem
  have hlt : t % ((List.range ops.size).filter (ready ops listed)).length < ((List.range ops.size).filter (ready ops listed)).length := Nat.mod_lt _ hpos
  have hget := List.getElem?_eq_getElem hlt
  have hi := List.getElem_mem hlt
  rw [List.mem_filter, List.mem_range] at hi
  refine ⟨_, t / ((List.range ops.size).filter (ready ops listed)).length, hi.2, hi.1, ?_⟩
  have hdef : linearise.go .any ops (fuel + 1) t listed [] = match ((List.range ops.size).filter (ready ops listed))[t % ((List.range ops.size).filter (ready ops listed)).length]? with
      | some i => linearise.go .any ops fuel (t / ((List.range ops.size).filter (ready ops listed)).length) (listed.setIfInBounds i true) [i]
      | none => [] := rfl
  rw [hdef, hget]
  simp only
  rw [go_acc]; rfl

def edgesOf (ops : Array Oper) (i : Nat) : List Nat := ((ops[i]?).map edges).getD []

theorem ready_iff {ops : Array Oper} {listed : Array Bool} {i : Nat} (hi : i < ops.size) :
    ready ops listed i = true ↔ listed.getD i true = false ∧ ∀ x ∈ edgesOf ops i, listed.getD x false = true := by
  have hoi : ops[i]? = some ops[i] := Array.getElem?_eq_getElem hi
  unfold ready edgesOf
  rw [hoi]
  simp only [Option.map_some, Option.getD_some, Bool.and_eq_true, Bool.not_eq_true']
  constructor
  · rintro ⟨h1, h2⟩
    refine ⟨h1, fun x hx => ?_⟩
    unfold edges at hx
    rw [List.mem_map] at hx
    obtain ⟨e, he, rfl⟩ := hx
    rw [List.mem_filter] at he
    have hm : e ∈ ops[i].after := by simpa using he.1
    have := (Array.all_eq_true_iff_forall_mem.1 h2) e hm
    simpa [he.2] using this
  · rintro ⟨h1, h2⟩
    refine ⟨h1, Array.all_eq_true_iff_forall_mem.2 fun e hm => ?_⟩
    by_cases hb : Region.binds .any e = true
    · have := h2 e.on (by unfold edges; rw [List.mem_map]; exact ⟨e, List.mem_filter.2 ⟨by simpa using hm, hb⟩, rfl⟩)
      simp [hb, this]
    · simp [hb]

theorem testBit_fold (g : Nat → Nat) (x : Nat) : ∀ (l : List Nat) (s : Nat), (l.foldl (fun s e => s ||| (2 ^ e ||| g e)) s).testBit x = true → s.testBit x = true ∨ ∃ e ∈ l, x = e ∨ (g e).testBit x = true := by
  intro l
  induction l with
  | nil => intro s h; exact .inl h
  | cons e l ih =>
    intro s h
    rcases ih _ h with h1 | ⟨e', he, h1⟩
    · rw [Nat.testBit_or, Nat.testBit_or, Nat.testBit_two_pow] at h1
      simp only [Bool.or_eq_true, decide_eq_true_eq] at h1
      rcases h1 with h1 | h1 | h1
      · exact .inl h1
      · exact .inr ⟨e, .head _, .inl h1.symm⟩
      · exact .inr ⟨e, .head _, .inr h1⟩
    · exact .inr ⟨e', .tail _ he, h1⟩

/-- each mask comes of the edges of its operation, and of masks of elder ones -/
theorem masks_sound : ∀ (after : List (List Nat)) (acc : List Nat) (i : Nat), acc.length ≤ i → i < acc.length + after.length → ∀ x, ((masks after acc).getD i 0).testBit x = true →
    ∃ e ∈ after.getD (i - acc.length) [], x = e ∨ (e < i ∧ ((masks after acc).getD e 0).testBit x = true) := by
  intro after
  induction after with
  | nil => intro acc i h1 h2; simp at h2; omega
  | cons es r ih =>
    intro acc i h1 h2 x hx
    have keep : ∀ (after : List (List Nat)) (acc : List Nat) (k : Nat), k < acc.length → (masks after acc).getD k 0 = acc.getD k 0 := by
      intro after
      induction after with
      | nil => intro acc k _; rfl
      | cons es r ih =>
        intro acc k hk
        rw [masks, ih _ _ (by simp; omega)]
        simp [List.getD_eq_getElem?_getD, List.getElem?_append_left hk]
    by_cases hi : i = acc.length
    · subst hi
      rw [masks, keep _ _ _ (by simp)] at hx
      have : (acc ++ [es.foldl (fun s e => s ||| (2 ^ e ||| acc.getD e 0)) 0]).getD acc.length 0 = es.foldl (fun s e => s ||| (2 ^ e ||| acc.getD e 0)) 0 := by
        simp [List.getD_eq_getElem?_getD]
      rw [this] at hx
      rcases testBit_fold _ x es 0 hx with h | ⟨e, he, h⟩
      · simp at h
      · refine ⟨e, by simpa using he, ?_⟩
        rcases h with h | h
        · exact .inl h
        · right
          have hlt : e < acc.length := by
            rcases Nat.lt_or_ge e acc.length with h3 | h3
            · exact h3
            · simp [List.getD_eq_getElem?_getD, List.getElem?_eq_none h3] at h
          refine ⟨hlt, ?_⟩
          rw [masks, keep _ _ _ (by simp; omega)]
          simpa [List.getD_eq_getElem?_getD, List.getElem?_append_left hlt] using h
    · have := ih (acc ++ [es.foldl (fun s e => s ||| (2 ^ e ||| acc.getD e 0)) 0]) i (by simp; omega) (by simp at h2 ⊢; omega) x hx
      obtain ⟨e, he, h⟩ := this
      refine ⟨e, ?_, h⟩
      have h3 : i - acc.length = (i - (acc ++ [es.foldl (fun s e => s ||| (2 ^ e ||| acc.getD e 0)) 0]).length) + 1 := by simp; omega
      rw [h3]; simpa using he
end
end Eng
end Go.Proofs.Ytbhlolmglieehaa
