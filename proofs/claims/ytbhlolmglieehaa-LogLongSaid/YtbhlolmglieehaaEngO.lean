/- Regions that draw their order: any order comes to what the groups of operations say. -/
import Derived.Test.YtbhlolmglieehaaEngN
set_option linter.unusedSimpArgs false
set_option linter.unusedVariables false
namespace Go.Proofs.Ytbhlolmglieehaa
namespace Eng

section
variable {P : Program} {f : FuncId} {K : List Item} {Z : Ending → World → Prop}

def msOf (ops : Array Oper) : List Nat := masks (ops.toList.map edges) []

structure Inv (ops : Array Oper) (listed : Array Bool) (pend : List EG) : Prop where
  size : listed.size = ops.size
  iff_ : ∀ i, i < ops.size → (listed.getD i true = false ↔ ∃ e ∈ pend, e.idx = i)
  nodup : (pend.map (·.idx)).Nodup
  lt : ∀ e ∈ pend, e.idx < ops.size
  down : ∀ i, i < ops.size → listed.getD i false = true → ∀ x ∈ edgesOf ops i, listed.getD x false = true
  topo : pend.Pairwise fun p q => q.idx ∉ edgesOf ops p.idx
  self : ∀ e ∈ pend, e.idx ∉ edgesOf ops e.idx

theorem getD_both {listed : Array Bool} {i : Nat} (h : i < listed.size) : listed.getD i true = listed.getD i false := by
  simp [Array.getD, h]

theorem listed_of_mask {ops : Array Oper} {listed : Array Bool} {pend : List EG} (inv : Inv ops listed pend) : ∀ (i : Nat), i < ops.size → ∀ x, ((msOf ops).getD i 0).testBit x = true →
    (∀ y ∈ edgesOf ops i, listed.getD y false = true) → listed.getD x false = true := by
  intro i
  induction i using Nat.strongRecOn with
  | _ i ih =>
    intro hi x hx hl
    obtain ⟨e, he, h⟩ := masks_sound (ops.toList.map edges) [] i (by simp) (by simpa using hi) x hx
    have he' : e ∈ edgesOf ops i := by
      have hoi : ops[i]? = some ops[i] := Array.getElem?_eq_getElem hi
      unfold edgesOf
      rw [hoi]
      simp only [Option.map_some, Option.getD_some]
      simpa [List.getD_eq_getElem?_getD, hi] using he
    rcases h with rfl | ⟨h1, h2⟩
    · exact hl _ he'
    · exact ih e h1 (by omega) x h2 (inv.down e (by omega) (hl e he'))

def Anc (ops : Array Oper) (p q : EG) : Prop := ((msOf ops).getD q.idx 0).testBit p.idx = true

/-- p, which stands ahead of q, is ahead of it in every order, or may be behind it -/
def PairIn (ops : Array Oper) (p q : EG) : Prop := Anc ops p q ∨ (p.calm = true ∧ Indep p q ∧ notRaw p.op = true ∧ notRaw q.op = true)
def PairOut (ops : Array Oper) (p q : EG) : Prop := Anc ops p q ∨ (p.calm = true ∧ pureKind p.op = true ∧ Indep p q ∧ notRaw p.op = true ∧ notRaw q.op = true)

theorem PairOut.in_ {ops : Array Oper} {p q : EG} (h : PairOut ops p q) : PairIn ops p q := h.imp id fun ⟨a, _, b⟩ => ⟨a, b⟩

/-- what is asked of the groups -/
structure GOK (P : Program) (n : Nat) (ops : Array Oper) (segs : List (List EG)) : Prop where
  from_ : ∀ s ∈ segs, ∀ e ∈ s, From P n ops e
  pairs : ∀ s ∈ segs, s.Pairwise (PairIn ops)
  later : segs.Pairwise fun s r => ∀ p ∈ s, ∀ q ∈ r, PairOut ops p q

theorem head_ready {ops : Array Oper} (hr : ∀ i, ∀ x ∈ edgesOf ops i, x < ops.size) {listed : Array Bool} {p : EG} {pend : List EG} (inv : Inv ops listed (p :: pend)) :
    ready ops listed p.idx = true := by
  have hi := inv.lt p (.head _)
  rw [ready_iff hi]
  refine ⟨(inv.iff_ _ hi).2 ⟨p, .head _, rfl⟩, fun x hx => ?_⟩
  have hxs := hr _ x hx
  cases hlx : listed.getD x true with
  | true => rw [← getD_both (by rw [inv.size]; exact hxs)]; exact hlx
  | false =>
    obtain ⟨e, he, e1⟩ := (inv.iff_ x hxs).1 hlx
    cases he with
    | head => subst e1; exact absurd hx (inv.self p (.head _))
    | tail _ he =>
      have := (List.pairwise_cons.1 inv.topo).1 e he
      rw [e1] at this; exact absurd hx this

theorem Inv.step {ops : Array Oper} {listed : Array Bool} {pre post : List EG} {q : EG} (inv : Inv ops listed (pre ++ q :: post)) (hr : ready ops listed q.idx = true) :
    Inv ops (listed.setIfInBounds q.idx true) (pre ++ post) := by
  have hq := inv.lt q (by simp)
  have hrd := (ready_iff hq).1 hr
  have hnd : ∀ e ∈ pre ++ post, e.idx ≠ q.idx := by
    intro e he e1
    have := inv.nodup
    rw [List.map_append, List.map_cons, List.nodup_append] at this
    obtain ⟨n1, n2, n3⟩ := this
    rcases List.mem_append.1 he with h | h
    · exact n3 e.idx (List.mem_map_of_mem h) q.idx (.head _) e1
    · rw [List.nodup_cons] at n2; exact n2.1 (by rw [← e1]; exact List.mem_map_of_mem h)
  have hsub : List.Sublist (pre ++ post) (pre ++ q :: post) := List.Sublist.append_left (List.sublist_cons_self q post) pre
  have gset : ∀ (x : Nat) (b : Bool), x < ops.size → (listed.setIfInBounds q.idx true).getD x b = if q.idx = x then true else listed.getD x b := by
    intro x b hx
    have h1 : x < listed.size := by rw [inv.size]; exact hx
    simp only [Array.getD, Array.size_setIfInBounds, h1, dif_pos]
    simp only [Array.getInternal_eq_getElem, Array.getElem_setIfInBounds]
    split <;> simp_all
  refine ⟨by simp [inv.size], fun i hi => ?_, ?_, fun e he => inv.lt e (hsub.subset he), fun i hi hl x hx => ?_, inv.topo.sublist hsub, fun e he => inv.self e (hsub.subset he)⟩
  · rw [gset i true hi]
    by_cases e1 : q.idx = i
    · rw [if_pos e1]
      constructor
      · intro h; cases h
      · rintro ⟨e, he, e2⟩; exact absurd (e2.trans e1.symm) (hnd e he)
    · rw [if_neg e1, inv.iff_ i hi]
      constructor
      · rintro ⟨e, he, e2⟩
        refine ⟨e, ?_, e2⟩
        rw [List.mem_append, List.mem_cons] at he
        rw [List.mem_append]
        rcases he with h | h | h
        · exact .inl h
        · subst h; exact absurd e2 e1
        · exact .inr h
      · rintro ⟨e, he, e2⟩; exact ⟨e, hsub.subset he, e2⟩
  · exact inv.nodup.sublist (hsub.map _)
  · have hmono : ∀ y, listed.getD y false = true → (listed.setIfInBounds q.idx true).getD y false = true := by
      intro y hy
      by_cases hys : y < ops.size
      · rw [gset y false hys]; split
        · rfl
        · exact hy
      · have : ¬ y < listed.size := by rw [inv.size]; exact hys
        simp [Array.getD, this] at hy
    rw [gset i false hi] at hl
    by_cases e1 : q.idx = i
    · subst e1; exact hmono _ (hrd.2 x hx)
    · rw [if_neg e1] at hl; exact hmono _ (inv.down i hi hl x hx)

theorem Take.frame {F : Hp} {H S M : List HA} (t : Take H S M) {h : Hp} {w : World} (q : seps H h) (fw : Fits F h w) :
    ∃ F' hm hs, Ext F F' ∧ Known S F' ∧ seps M hm ∧ Fits F' hm w ∧ F' = join F hs ∧ (∀ n, hs n = none ∨ F n = none) ∧ seps S hs := by
  obtain ⟨a, b, sp, qa, qb⟩ := seps_append.1 (t.sound q)
  have hb : ∀ n, a n = none ∨ F n = none := fun n => (fw.dis n).imp sp.none_left id
  refine ⟨join F a, b, a, fun n o e => by simp [join, e], fun n o m => ?_, qb, fw.split sp.symm, rfl, hb, qa⟩
  have := seps_mem_pt m qa
  rcases hb n with e | e
  · rw [e] at this; cases this
  · simp [join, e, this]

/-- all groups, in whatever order -/
theorem all_goes {n : Nat} {ops : Array Oper} (hr : ∀ i, ∀ x ∈ edgesOf ops i, x < ops.size) {F : Hp} {C : Fr → List HA → Prop} {w0 : World} (hresp : Respects C)
    (hC : ∀ l H a w h, C l H → FrOk n l a → seps H h → Fits F h w → Keeps w0 w → Goes P f K a w Z) :
    ∀ (fuel : Nat) (segs : List (List EG)) (F' : Hp) (S : List HA) (L : List EG) (l : Fr) (M : List HA) (t : Nat) (listed : Array Bool) (a : Act) (w : World) (h : Hp),
      (∀ M' h' w', seps M' h' → Fits F' h' w' → ∃ h2, seps (S ++ M') h2 ∧ Fits F h2 w') →
      (∀ e ∈ L, From P n ops e) → L.Pairwise (PairIn ops) → (∀ s ∈ segs, ∀ p ∈ L, ∀ q ∈ s, PairOut ops p q) → GOK P n ops segs →
      Inv ops listed (L ++ segs.flatten) → (L ++ segs.flatten).length ≤ fuel → Ops P F' L l M (fun l' M' => Segs P F segs l' (S ++ M') C) → FrOk n l a → seps M h → Fits F' h w → Keeps w0 w →
      Goes P f (.inRegion ops (Region.linearise.go .any ops fuel t listed []) :: K) a w Z := by
  intro fuel
  induction fuel with
  | zero =>
    intro segs F' S L l M t listed a w h th _ _ _ _ inv hfu o fa q fw k
    have hnil : L ++ segs.flatten = [] := List.length_eq_zero_iff.1 (by omega)
    have hL : L = [] := (List.append_eq_nil_iff.1 hnil).1
    have hS := (List.append_eq_nil_iff.1 hnil).2
    subst hL
    refine Goes.region_end ?_
    have key : ∀ (segs : List (List EG)) (F' : Hp) (S M : List HA) (h : Hp), segs.flatten = [] → (∀ M' h' w', seps M' h' → Fits F' h' w' → ∃ h2, seps (S ++ M') h2 ∧ Fits F h2 w') → Segs P F segs l (S ++ M) C → seps M h → Fits F' h w →
        ∃ H2 h2, C l H2 ∧ seps H2 h2 ∧ Fits F h2 w := by
      intro segs
      induction segs with
      | nil => intro F' S M h _ th s q fw; obtain ⟨h2, q2, f2⟩ := th M h w q fw; exact ⟨_, h2, s, q2, f2⟩
      | cons s segs ih =>
        intro F' S M h hfl th sg q fw
        have hfl2 : s ++ segs.flatten = [] := by rw [← List.flatten_cons]; exact hfl
        have hs : s = [] := (List.append_eq_nil_iff.1 hfl2).1
        have hfl' : segs.flatten = [] := (List.append_eq_nil_iff.1 hfl2).2
        subst hs
        obtain ⟨h2, q2, f2⟩ := th M h w q fw
        rcases sg with o | ⟨S2, M2, tk, body⟩
        · exact ih F [] (S ++ M) h2 hfl' (fun M' h' w' a b => ⟨h', a, b⟩) o q2 f2
        · obtain ⟨F2, hm, hs, ext, kn, qm, fm, rfl, hdis, qs⟩ := tk.frame q2 f2
          refine ih (join F hs) S2 M2 hm hfl' (fun M' h' w' a b => ?_) (body _ ext kn) qm fm
          have ⟨k2, s2⟩ := b.unsplit hdis
          exact ⟨_, seps_append.2 ⟨hs, h', s2.symm, qs, a⟩, k2⟩
    obtain ⟨H2, h2, c, q2, f2⟩ := key segs F' S M h hS th o q fw
    exact hC _ _ _ _ _ c fa q2 f2 k
  | succ fuel ih =>
    -- the groups behind are merged in until the operation that is next is among those at hand
    intro segs
    induction segs with
    | nil =>
      intro F' S L l M t listed a w h th hfrom hpairs hout gok inv hfu o fa q fw k
      cases L with
      | nil =>
        have : Region.linearise.go .any ops (fuel + 1) t listed [] = [] := by
          have hnone : (List.range ops.size).filter (ready ops listed) = [] := by
            rw [List.filter_eq_nil_iff]
            intro i hi hri
            have hilt := List.mem_range.1 hi
            have := ((ready_iff hilt).1 hri).1
            obtain ⟨e, he, _⟩ := (inv.iff_ i hilt).1 this
            cases he
          have hdef : Region.linearise.go .any ops (fuel + 1) t listed [] = match ((List.range ops.size).filter (ready ops listed))[t % ((List.range ops.size).filter (ready ops listed)).length]? with
            | some i => Region.linearise.go .any ops fuel (t / ((List.range ops.size).filter (ready ops listed)).length) (listed.setIfInBounds i true) [i]
            | none => [] := rfl
          rw [hdef, hnone]; rfl
        rw [this]
        obtain ⟨h2, q2, f2⟩ := th M h w q fw
        exact Goes.region_end (hC _ _ _ _ _ o fa q2 f2 k)
      | cons p0 L0 =>
        have hready0 := head_ready hr inv
        have hi0 := inv.lt p0 (by simp)
        obtain ⟨i, t', hri, hilt, hgo⟩ := go_step ops fuel t listed p0.idx hi0 hready0
        rw [hgo]
        have hrdi := (ready_iff hilt).1 hri
        obtain ⟨qe, hqe, hqi⟩ := (inv.iff_ i hilt).1 hrdi.1
        subst hqi
        have hqL : qe ∈ p0 :: L0 := by simpa using hqe
        obtain ⟨pre, post, hsplit⟩ := List.append_of_mem hqL
        have notAhead : ∀ p ∈ p0 :: L0, Anc ops p qe → False := by
          intro p hpm hb
          have hpm' : p ∈ (p0 :: L0) ++ ([] : List (List EG)).flatten := List.mem_append_left _ hpm
          have h1 := listed_of_mask inv qe.idx hilt p.idx hb hrdi.2
          have h2 := (inv.iff_ p.idx (inv.lt p hpm')).2 ⟨p, hpm', rfl⟩
          rw [getD_both (by rw [inv.size]; exact inv.lt p hpm'), h1] at h2
          cases h2
        have hpre : ∀ p ∈ pre, p.calm = true ∧ Indep p qe ∧ notRaw p.op = true ∧ notRaw qe.op = true := by
          intro p hpm
          rw [hsplit, List.pairwise_append] at hpairs
          rcases hpairs.2.2 p hpm qe (.head _) with h1 | h1
          · exact (notAhead p (by rw [hsplit]; simp [hpm]) h1).elim
          · exact h1
        have hsub : List.Sublist (pre ++ post) (p0 :: L0) := by rw [hsplit]; exact List.Sublist.append_left (List.sublist_cons_self qe post) pre
        have ofront : Ops P F' (qe :: (pre ++ post)) l M (fun l' M' => Segs P F [] l' (S ++ M') C) := by
          rw [hsplit] at o
          exact Ops.front hpre (fun l l' H e x => hresp _ _ _ e x) o
        rw [Ops.cons_eq] at ofront
        have inv' : Inv ops (listed.setIfInBounds qe.idx true) (pre ++ post ++ ([] : List (List EG)).flatten) := by
          have hinv := inv
          rw [hsplit, List.append_assoc, List.cons_append] at hinv
          have := Inv.step hinv hri
          rw [List.append_assoc]; exact this
        have hlen : (pre ++ post ++ ([] : List (List EG)).flatten).length ≤ fuel := by
          have h1 : (p0 :: L0).length = (pre ++ qe :: post).length := by rw [hsplit]
          simp at h1 hfu ⊢; omega
        refine one_goes (hfrom qe hqL) ofront fa q fw fun v H' a' w' h' nx fa' q' fw' k' => ?_
        exact ih [] F' S (pre ++ post) _ _ t' _ _ _ _ th (fun e he => hfrom e (hsub.subset he)) (hpairs.sublist hsub) (fun s hs => by cases hs) gok inv' hlen nx fa' q' fw' (k.trans k')
    | cons s segs ihs =>
      intro F' S L l M t listed a w h th hfrom hpairs hout gok inv hfu o fa q fw k
      have gok' : GOK P n ops segs := ⟨fun x hx => gok.from_ x (.tail _ hx), fun x hx => gok.pairs x (.tail _ hx), (List.pairwise_cons.1 gok.later).2⟩
      have hfromS := gok.from_ s (.head _)
      have hpairsS := gok.pairs s (.head _)
      have hSlater := (List.pairwise_cons.1 gok.later).1
      -- all at hand ask nothing of the world: the next group joins them
      have merge : (∀ e ∈ L, e.calm = true ∧ pureKind e.op = true) → Goes P f (.inRegion ops (Region.linearise.go .any ops (fuel + 1) t listed []) :: K) a w Z := by
        intro hpure
        obtain ⟨l', sg, back⟩ := Ops.pure_run hpure ⟨w, fw.frm⟩ o
        obtain ⟨h2, q2, f2⟩ := th M h w q fw
        have hpairs' : (L ++ s).Pairwise (PairIn ops) := List.pairwise_append.2 ⟨hpairs, hpairsS, fun p hp q hq => (hout s (.head _) p hp q hq).in_⟩
        have hout' : ∀ s' ∈ segs, ∀ p ∈ L ++ s, ∀ q ∈ s', PairOut ops p q := by
          intro s' hs' p hp q hq
          rcases List.mem_append.1 hp with h1 | h1
          · exact hout s' (.tail _ hs') p h1 q hq
          · exact hSlater s' hs' p h1 q hq
        have hfrom' : ∀ e ∈ L ++ s, From P n ops e := fun e he => by
          rcases List.mem_append.1 he with h1 | h1
          · exact hfrom e h1
          · exact hfromS e h1
        have inv' : Inv ops listed (L ++ s ++ segs.flatten) := by
          rw [List.append_assoc]; simpa using inv
        have hfu' : (L ++ s ++ segs.flatten).length ≤ fuel + 1 := by
          rw [List.append_assoc]; simpa using hfu
        rcases sg with o2 | ⟨S2, M2, tk, body⟩
        · exact ihs F [] (L ++ s) l (S ++ M) t listed a w h2 (fun M' h' w' a b => ⟨h', a, b⟩) hfrom' hpairs' hout' gok' inv' hfu' (Ops.append.2 (back F _ _ o2)) fa q2 f2 k
        · obtain ⟨F2, hm, hs, ext, kn, qm, fm, rfl, hdis, qs⟩ := tk.frame q2 f2
          refine ihs (join F hs) S2 (L ++ s) l M2 t listed a w hm (fun M' h' w' a b => ?_) hfrom' hpairs' hout' gok' inv' hfu' (Ops.append.2 (back _ _ _ (body _ ext kn))) fa qm fm k
          have ⟨k2, s2⟩ := b.unsplit hdis
          exact ⟨_, seps_append.2 ⟨hs, h', s2.symm, qs, a⟩, k2⟩
      cases L with
      | nil => exact merge (fun e he => by cases he)
      | cons p0 L0 =>
        have hready0 : ready ops listed p0.idx = true := head_ready hr inv
        have hi0 := inv.lt p0 (by simp)
        obtain ⟨i, t', hri, hilt, hgo⟩ := go_step ops fuel t listed p0.idx hi0 hready0
        have hrdi := (ready_iff hilt).1 hri
        obtain ⟨qe, hqe, hqi⟩ := (inv.iff_ i hilt).1 hrdi.1
        subst hqi
        have notAhead : ∀ p ∈ p0 :: L0, Anc ops p qe → False := by
          intro p hpm hb
          have hpm' : p ∈ (p0 :: L0) ++ (s :: segs).flatten := List.mem_append_left _ hpm
          have h1 := listed_of_mask inv qe.idx hilt p.idx hb hrdi.2
          have h2 := (inv.iff_ p.idx (inv.lt p hpm')).2 ⟨p, hpm', rfl⟩
          rw [getD_both (by rw [inv.size]; exact inv.lt p hpm'), h1] at h2
          cases h2
        by_cases hqL : qe ∈ p0 :: L0
        · obtain ⟨pre, post, hsplit⟩ := List.append_of_mem hqL
          have hpre : ∀ p ∈ pre, p.calm = true ∧ Indep p qe ∧ notRaw p.op = true ∧ notRaw qe.op = true := by
            intro p hpm
            rw [hsplit, List.pairwise_append] at hpairs
            rcases hpairs.2.2 p hpm qe (.head _) with h1 | h1
            · exact (notAhead p (by rw [hsplit]; simp [hpm]) h1).elim
            · exact h1
          have hsub : List.Sublist (pre ++ post) (p0 :: L0) := by rw [hsplit]; exact List.Sublist.append_left (List.sublist_cons_self qe post) pre
          have ofront : Ops P F' (qe :: (pre ++ post)) l M (fun l' M' => Segs P F (s :: segs) l' (S ++ M') C) := by
            rw [hsplit] at o
            exact Ops.front hpre (fun l l' H e x => Segs.eq (fun a b c d => hresp a b c d) e x) o
          rw [Ops.cons_eq] at ofront
          have inv' : Inv ops (listed.setIfInBounds qe.idx true) (pre ++ post ++ (s :: segs).flatten) := by
            have hinv := inv
            rw [hsplit, List.append_assoc, List.cons_append] at hinv
            have := Inv.step hinv hri
            rw [List.append_assoc]; exact this
          have hlen : (pre ++ post ++ (s :: segs).flatten).length ≤ fuel := by
            have h1 : (p0 :: L0).length = (pre ++ qe :: post).length := by rw [hsplit]
            simp at h1 hfu ⊢; omega
          rw [hgo]
          refine one_goes (hfrom qe hqL) ofront fa q fw fun v H' a' w' h' nx fa' q' fw' k' => ?_
          exact ih (s :: segs) F' S (pre ++ post) _ _ t' _ _ _ _ th (fun e he => hfrom e (hsub.subset he)) (hpairs.sublist hsub) (fun s' hs' p hp => hout s' hs' p (hsub.subset hp)) gok inv' hlen nx fa' q' fw' (k.trans k')
        · refine merge fun e he => ?_
          have hqr : qe ∈ (s :: segs).flatten := by
            rcases List.mem_append.1 hqe with h1 | h1
            · exact absurd h1 hqL
            · exact h1
          obtain ⟨r, hrm, hqr'⟩ := List.mem_flatten.1 hqr
          rcases hout r hrm e he qe hqr' with h1 | h1
          · exact (notAhead e he h1).elim
          · exact ⟨h1.1, h1.2.1⟩
end
end Eng
end Go.Proofs.Ytbhlolmglieehaa
