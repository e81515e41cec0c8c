/- farrierlaw08: so many things run with so many files each, and end: plainly. -/
import Derived.Test.YtnfomoeicgdkkaaGreatDoorZ11
import Derived.Test.YtnfomoeicgdkkaaGreatDoorZ12
set_option linter.unusedSimpArgs false
set_option linter.unusedVariables false
namespace Go.Proofs.YtnfomoeicgdkkaaGreatDoor

/-- a bit of an int, as the program asks for it -/
def bitV (n : Int) (k : Nat) : Int := IntKind.i64.wrap ((BitVec.ofInt 64 (n.fdiv (2 ^ (min k 64))) &&& BitVec.ofInt 64 (1 : Int)).toNat : Int)
def bit (n : Int) (k : Nat) : Bool := decide (bitV n k = 1)

def nm : Nat → Bytes
  | 0 => [47, 97]
  | 1 => [47, 98]
  | _ => [47, 100, 47, 99]
def idn : Nat → Int
  | 0 => 2
  | 1 => 3
  | _ => 5
def bits (n : Int) (m : Nat) : List Nat := (List.range m).filter (bit n)

theorem bits_succ (n : Int) (m : Nat) : bits n (m + 1) = bits n m ++ (if bit n m = true then [m] else []) := by
  unfold bits
  rw [List.range_succ, List.filter_append]
  congr 1
  simp only [List.filter_cons, List.filter_nil]
theorem bits_len (n : Int) (m : Nat) : (bits n m).length ≤ m := by
  have := List.length_filter_le (bit n) (List.range m)
  rw [List.length_range] at this
  exact this
theorem bits_lt {n : Int} {m k : Nat} (h : k ∈ bits n m) : k < m := by
  unfold bits at h
  rw [List.mem_filter, List.mem_range] at h
  exact h.1

theorem find8 : ∀ k, k < 3 → tree8.find (nm k) = idn k
  | 0, _ => by kernel_rfl
  | 1, _ => by kernel_rfl
  | 2, _ => by kernel_rfl
  | k + 3, h => by omega
theorem dir8 : ∀ k, k < 3 → tree8.isDir (nm k) = false
  | 0, _ => by kernel_rfl
  | 1, _ => by kernel_rfl
  | 2, _ => by kernel_rfl
  | k + 3, h => by omega
theorem idn_ne : ∀ k, idn k ≠ 0
  | 0 => by decide
  | 1 => by decide
  | _ + 2 => by show (5 : Int) ≠ 0; decide
theorem idn_inj {j k : Nat} (hj : j < 3) (hk : k < 3) (e : idn j = idn k) : j = k := by
  match j, k, hj, hk, e with
  | 0, 0, _, _, _ => rfl
  | 1, 1, _, _, _ => rfl
  | 2, 2, _, _, _ => rfl
  | 0, 1, _, _, e => exact absurd e (by decide)
  | 0, 2, _, _, e => exact absurd e (by decide)
  | 1, 0, _, _, e => exact absurd e (by decide)
  | 1, 2, _, _, e => exact absurd e (by decide)
  | 2, 0, _, _, e => exact absurd e (by decide)
  | 2, 1, _, _, e => exact absurd e (by decide)
theorem nm_inj {j k : Nat} (hj : j < 3) (hk : k < 3) (e : nm j = nm k) : j = k := by
  match j, k, hj, hk, e with
  | 0, 0, _, _, _ => rfl
  | 1, 1, _, _, _ => rfl
  | 2, 2, _, _, _ => rfl
  | 0, 1, _, _, e => exact absurd e (by decide)
  | 0, 2, _, _, e => exact absurd e (by decide)
  | 1, 0, _, _, e => exact absurd e (by decide)
  | 1, 2, _, _, e => exact absurd e (by decide)
  | 2, 0, _, _, e => exact absurd e (by decide)
  | 2, 1, _, _, e => exact absurd e (by decide)

def hv {K : Type} [DecidableEq K] (h : List (K × Int)) (i : K) : Int := (aget h i).getD 0
theorem hv_put {K : Type} [DecidableEq K] (h : List (K × Int)) (i j : K) (c : Int) : hv (aput h i c) j = if i = j then c else hv h j := by
  unfold hv
  rw [aget_aput]
  split <;> rfl
theorem hv_del {K : Type} [DecidableEq K] (h : List (K × Int)) (i j : K) : hv (adel h i) j = if i = j then 0 else hv h j := by
  unfold hv
  rw [aget_adel]
  split <;> rfl

attribute [local irreducible] tree8

theorem sweep8 (L : LogS) (h : List (Int × Int)) : (vol8h L h).sweep = vol8h L h := by
  have e : (vol8h L h).sweep = vol8h L h ↔ ({ vol8h L h with T := reapAll tree8 (tree8.loose.filter fun i => !decide (0 < (vol8h L h).held i)) } : VolS) = vol8h L h := Iff.rfl
  rw [e, loose8]
  rfl

theorem hold8 (L : LogS) (h : List (Int × Int)) (k : Nat) (hk : k < 3) : (vol8h L h).hold (nm k) = ((idn k, 0), vol8h L (aput h (idn k) (hv h (idn k) + 1))) := by
  have e1 : (vol8h L h).T.find (nm k) = idn k := find8 k hk
  have e2 : (vol8h L h).T.isDir (nm k) = false := dir8 k hk
  unfold VolS.hold
  rw [e1, e2, if_neg (idn_ne k), if_neg (by simp)]
  rfl

theorem holdAll8 (L : LogS) : ∀ (ks : List Nat) (h : List (Int × Int)) (acc : List Int), (∀ k ∈ ks, k < 3) →
    ∃ h', holdAll (vol8h L h) (ks.map nm) acc = (0, acc ++ ks.map idn, vol8h L h') ∧ ∀ i, hv h' i = hv h i + ((ks.map idn).count i : Nat)
  | [], h, acc, _ => ⟨h, by simp [holdAll], by simp⟩
  | k :: r, h, acc, hk => by
    obtain ⟨h', e1, e2⟩ := holdAll8 L r (aput h (idn k) (hv h (idn k) + 1)) (acc ++ [idn k]) (fun x hx => hk x (.tail _ hx))
    refine ⟨h', ?_, fun i => ?_⟩
    · rw [List.map_cons, holdAll_cons, hold8 L h k (hk k (.head _)), if_pos rfl, e1]
      simp
    · rw [e2 i, hv_put, List.map_cons, List.count_cons]
      by_cases e : idn k = i
      · subst e; simp; omega
      · simp [e]

theorem lets8 (L : LogS) (h : List (Int × Int)) (i : Int) (h0 : hv h i ≠ 0) : ∃ h', (vol8h L h).lets i = (0, vol8h L h') ∧ ∀ j, hv h' j = hv h j - (if i = j then 1 else 0) := by
  have e0 : (vol8h L h).held i = hv h i := rfl
  unfold VolS.lets
  rw [e0, if_neg h0]
  by_cases h1 : hv h i - 1 = 0
  · rw [if_pos h1]
    refine ⟨adel (aput h i (hv h i - 1)) i, ?_, fun j => ?_⟩
    · exact congrArg (Prod.mk 0) (sweep8 L _)
    · rw [hv_del, hv_put]
      by_cases e : i = j
      · subst e; simp; omega
      · simp [e]
  · rw [if_neg h1]
    refine ⟨aput h i (hv h i - 1), ?_, fun j => ?_⟩
    · exact congrArg (Prod.mk 0) (sweep8 L _)
    · rw [hv_put]
      by_cases e : i = j
      · subst e; simp
      · simp [e]

theorem letAll8 (L : LogS) : ∀ (is : List Int) (h : List (Int × Int)), (∀ i, (is.count i : Int) ≤ hv h i) → ∃ h', letAll (vol8h L h) is = vol8h L h' ∧ ∀ i, hv h' i = hv h i - (is.count i : Nat)
  | [], h, _ => ⟨h, rfl, by simp⟩
  | i :: r, h, hc => by
    have h1 := hc i
    rw [List.count_cons, if_pos (by simp)] at h1
    obtain ⟨h', e1, e2⟩ := lets8 L h i (by omega)
    obtain ⟨h2, e3, e4⟩ := letAll8 L r h' (fun j => by
      have := hc j
      rw [List.count_cons] at this
      rw [e2 j]
      by_cases e : i = j
      · subst e; simp at this ⊢; omega
      · simp [e] at this ⊢; omega)
    refine ⟨h2, ?_, fun j => ?_⟩
    · show letAll ((vol8h L h).lets i).2 r = _
      rw [e1]; exact e3
    · rw [e4 j, e2 j, List.count_cons]
      by_cases e : i = j
      · subst e; simp; omega
      · simp [e]

def P8 (k : Int) (r : Int) : ProcS := ⟨k, [117], (bits r 3).map idn, false⟩
/-- numbers that run: from lo + 1 to hi -/
structure Tb (S : TabS) (rows : List Int) (lo hi : Nat) : Prop where
  get : ∀ k : Int, aget S.list k = if (lo : Int) < k ∧ k ≤ hi then some (P8 k (rows.getD (k.toNat - 1) 0)) else none
  next : S.next = hi + 1
  len : S.list.length ≤ hi

theorem Tb.new (rows : List Int) : Tb ⟨[], 1⟩ rows 0 0 := ⟨fun k => by rw [if_neg (by omega)]; rfl, rfl, Nat.le_refl 0⟩
theorem Tb.ok {S : TabS} {rows : List Int} {lo hi : Nat} (h : Tb S rows lo hi) (h32 : hi ≤ 32) : S.Ok 1000 := by
  refine ⟨fun k x e => ?_, by rw [h.next]; omega, by decide⟩
  rw [h.get] at e
  split at e
  · cases e
    have := bits_len (rows.getD (k.toNat - 1) 0) 3
    refine ⟨by omega, by rw [h.next]; omega, rfl, ?_⟩
    unfold P8
    rw [List.length_map]; omega
  · cases e
theorem Tb.empty {S : TabS} {rows : List Int} {n : Nat} (h : Tb S rows n n) : S.list = [] := by
  cases e : S.list with
  | nil => rfl
  | cons x r =>
    have := h.get x.1
    rw [e, if_neg (by omega)] at this
    obtain ⟨k, y⟩ := x
    rw [aget_cons, if_pos rfl] at this
    cases this

theorem spawn8 {S : TabS} {rows : List Int} {i : Nat} (h : Tb S rows 0 i) (hi : i < 32) (L : LogS) (hs : List (Int × Int)) :
    ∃ S' h', S.spawn (vol8h L hs) [117] ((bits (rows.getD i 0) 3).map nm) = (((i : Int) + 1, 0), S', vol8h L h') ∧ Tb S' rows 0 (i + 1) ∧ (∀ j, hv h' j = hv hs j + (((bits (rows.getD i 0) 3).map idn).count j : Nat)) ∧ (holdAll (vol8h L hs) ((bits (rows.getD i 0) 3).map nm) []).2.2 = vol8h L h' := by
  generalize hr : rows.getD i 0 = r
  obtain ⟨h', e1, e2⟩ := holdAll8 L (bits r 3) hs [] (fun k hk => bits_lt hk)
  have hl := bits_len r 3
  unfold TabS.spawn
  rw [if_neg (by rw [List.length_map]; omega), if_neg (by have := h.len; omega), e1, if_neg (by simp)]
  refine ⟨⟨aput S.list S.next (P8 S.next r), S.next + 1⟩, h', by rw [h.next]; rfl, ⟨fun k => ?_, by dsimp only; rw [h.next]; omega, ?_⟩, e2, rfl⟩
  · dsimp only
    rw [aget_aput, h.next, h.get]
    by_cases e : (i : Int) + 1 = k
    · rw [if_pos e, if_pos (by omega), ← e, show ((i : Int) + 1).toNat - 1 = i by omega, hr]
    · rw [if_neg e]
      by_cases e2 : ((0 : Nat) : Int) < k ∧ k ≤ i
      · rw [if_pos e2, if_pos (by omega)]
      · rw [if_neg e2, if_neg (by omega)]
  · dsimp only
    unfold aput
    have := adel_len S.list S.next
    have := h.len
    rw [List.length_cons]; omega

theorem Tb.del {S : TabS} {rows : List Int} {j n : Nat} {l : List (Int × ProcS)} (h : Tb S rows j n) (hl : l.length ≤ n) (e : ∀ k, aget l k = if (j : Int) + 1 = k then none else aget S.list k) : Tb { S with list := l } rows (j + 1) n := by
  refine ⟨fun k => ?_, h.next, hl⟩
  dsimp only
  rw [e k, h.get]
  by_cases e1 : (j : Int) + 1 = k
  · rw [if_pos e1, if_neg (by omega)]
  · rw [if_neg e1]
    by_cases e2 : (j : Int) < k ∧ k ≤ n
    · rw [if_pos e2, if_pos (by omega)]
    · rw [if_neg e2, if_neg (by omega)]

theorem exit8 {S : TabS} {rows : List Int} {j n : Nat} (h : Tb S rows j n) (hj : j < n) (L : LogS) (hs : List (Int × Int)) (hc : ∀ i, (((bits (rows.getD j 0) 3).map idn).count i : Int) ≤ hv hs i) :
    ∃ S' h', S.exit (vol8h L hs) ((j : Int) + 1) = (0, S', vol8h L h') ∧ Tb S' rows (j + 1) n ∧ (∀ i, hv h' i = hv hs i - (((bits (rows.getD j 0) 3).map idn).count i : Nat)) ∧ letAll (vol8h L hs) ((bits (rows.getD j 0) 3).map idn) = vol8h L h' := by
  have hg : aget S.list ((j : Int) + 1) = some (P8 ((j : Int) + 1) (rows.getD j 0)) := by
    rw [h.get, if_pos (by omega), show ((j : Int) + 1).toNat - 1 = j by omega]
  obtain ⟨h', e1, e2⟩ := letAll8 L _ hs hc
  refine ⟨{ S with list := adel S.list ((j : Int) + 1) }, h', ?_, h.del (Nat.le_trans (adel_len _ _) h.len) (fun k => aget_adel _ _ _), e2, e1⟩
  unfold TabS.exit
  rw [hg]
  exact congrArg (fun v => ((0 : Int), ({ S with list := adel S.list ((j : Int) + 1) } : TabS), v)) e1

theorem kill8 {S : TabS} {rows : List Int} {j n : Nat} (h : Tb S rows j n) (hj : j < n) (h32 : n ≤ 32) (L : LogS) (hs : List (Int × Int)) (hc : ∀ i, (((bits (rows.getD j 0) 3).map idn).count i : Int) ≤ hv hs i) :
    ∃ S1 S' h', S.kill ((j : Int) + 1) = (0, S1) ∧ S1.Ok 1000 ∧ S1.pick (vol8h L hs) ((j : Int) + 1) = ((true, 0), S', vol8h L h') ∧ Tb S' rows (j + 1) n ∧ (∀ i, hv h' i = hv hs i - (((bits (rows.getD j 0) 3).map idn).count i : Nat)) ∧ letAll (vol8h L hs) ((bits (rows.getD j 0) 3).map idn) = vol8h L h' := by
  have hg : aget S.list ((j : Int) + 1) = some (P8 ((j : Int) + 1) (rows.getD j 0)) := by
    rw [h.get, if_pos (by omega), show ((j : Int) + 1).toNat - 1 = j by omega]
  obtain ⟨h', e1, e2⟩ := letAll8 L _ hs hc
  have hok := h.ok h32
  have hlen := bits_len (rows.getD j 0) 3
  refine ⟨{ S with list := aput S.list ((j : Int) + 1) { P8 ((j : Int) + 1) (rows.getD j 0) with ending := true } }, { S with list := adel (aput S.list ((j : Int) + 1) { P8 ((j : Int) + 1) (rows.getD j 0) with ending := true }) ((j : Int) + 1) }, h', ?_, ⟨fun k x e => ?_, hok.next, hok.great⟩, ?_, h.del ?_ (fun k => ?_), e2, e1⟩
  · unfold TabS.kill
    rw [hg]
  · dsimp only at e
    rw [aget_aput] at e
    split at e
    · rename_i ek
      cases e
      subst ek
      refine ⟨by omega, by rw [h.next]; omega, rfl, ?_⟩
      unfold P8
      rw [List.length_map]; omega
    · exact hok.keys k x e
  · unfold TabS.pick TabS.exit
    dsimp only
    rw [aget_aput, if_pos rfl]
    dsimp only
    rw [if_neg (by simp)]
    exact congrArg (fun v => (((true, 0) : Bool × Int), ({ S with list := adel (aput S.list ((j : Int) + 1) { P8 ((j : Int) + 1) (rows.getD j 0) with ending := true }) ((j : Int) + 1) } : TabS), v)) e1
  · have e3 : adel (aput S.list ((j : Int) + 1) { P8 ((j : Int) + 1) (rows.getD j 0) with ending := true }) ((j : Int) + 1) = adel (adel S.list ((j : Int) + 1)) ((j : Int) + 1) := by
      unfold aput
      unfold adel
      rw [List.filter_cons, if_neg (by simp)]
    rw [e3]
    exact Nat.le_trans (adel_len _ _) (Nat.le_trans (adel_len _ _) h.len)
  · rw [aget_adel, aget_aput]
    split <;> rfl

/-- how many have a file -/
def cntb (rows : List Int) (k : Nat) : Int := ((rows.filter fun r => bit r k).length : Nat)
theorem cntb_pos (rows : List Int) (k : Nat) : 0 ≤ cntb rows k := by unfold cntb; omega
theorem cntb_le (rows : List Int) (k : Nat) : cntb rows k ≤ rows.length := by
  unfold cntb
  have := List.length_filter_le (fun r => bit r k) rows
  omega
theorem cntb_cons (r : Int) (rows : List Int) (k : Nat) : cntb (r :: rows) k = cntb rows k + if bit r k = true then 1 else 0 := by
  unfold cntb
  rw [List.filter_cons]
  by_cases e : bit r k = true
  · rw [if_pos e, if_pos e, List.length_cons]; omega
  · rw [if_neg e, if_neg e]; omega
theorem cntb_app (a b : List Int) (k : Nat) : cntb (a ++ b) k = cntb a k + cntb b k := by
  unfold cntb
  rw [List.filter_append, List.length_append]; omega
theorem cntb_take {rows : List Int} {i : Nat} (h : i < rows.length) (k : Nat) : cntb (rows.take (i + 1)) k = cntb (rows.take i) k + if bit (rows.getD i 0) k = true then 1 else 0 := by
  rw [List.take_add_one, cntb_app, List.getElem?_eq_getElem h]
  congr 1
  rw [List.getD_eq_getElem?_getD, List.getElem?_eq_getElem h]
  show cntb [rows[i]] k = _
  rw [cntb_cons]
  show (0 : Int) + _ = _
  rw [Int.zero_add]; rfl
theorem cntb_drop {rows : List Int} {j n : Nat} (h : j < n) (hn : n ≤ rows.length) (k : Nat) : cntb ((rows.take n).drop j) k = cntb ((rows.take n).drop (j + 1)) k + if bit (rows.getD j 0) k = true then 1 else 0 := by
  have hl : j < (rows.take n).length := by rw [List.length_take]; omega
  rw [List.drop_eq_getElem_cons hl, cntb_cons, List.getElem_take, List.getD_eq_getElem?_getD, List.getElem?_eq_getElem (by omega : j < rows.length)]
  rfl

theorem count_bits (r : Int) (k : Nat) (hk : k < 3) : (((bits r 3).map idn).count (idn k) : Int) = if bit r k = true then 1 else 0 := by
  rw [show (3 : Nat) = 2 + 1 from rfl, bits_succ, bits_succ r 1, bits_succ r 0]
  have e0 : bits r 0 = [] := rfl
  rw [e0]
  match k, hk with
  | 0, _ => cases bit r 0 <;> cases bit r 1 <;> cases bit r 2 <;> rfl
  | 1, _ => cases bit r 0 <;> cases bit r 1 <;> cases bit r 2 <;> rfl
  | 2, _ => cases bit r 0 <;> cases bit r 1 <;> cases bit r 2 <;> rfl
theorem count_other (r : Int) (i : Int) (h : ∀ k, k < 3 → idn k ≠ i) : ((bits r 3).map idn).count i = 0 := by
  rw [List.count_eq_zero]
  intro hm
  obtain ⟨k, hk, e⟩ := List.mem_map.1 hm
  exact h k (bits_lt hk) e
end Go.Proofs.YtnfomoeicgdkkaaGreatDoor

/- farrierlaw08: so many things run with so many files each, and end: the walk. -/
set_option linter.unusedSimpArgs false
set_option linter.unusedVariables false
set_option maxRecDepth 1000000
namespace Go.Proofs.YtnfomoeicgdkkaaGreatDoor
namespace Eng

def encS (x : Bytes × Int) : Bytes × Value := (x.1, Eng.encI x.2)
theorem foundS {hs : List (Bytes × Int)} {s : Bytes} {fr : Option (Nat × Value)} (h : fr.map Prod.snd = aget (hs.map encS) s) : foundV (.int .i64 0) false fr = .int .i64 (hv hs s) := by
  rw [Eng.found_of (v := .int .i64 0) h]
  have : aget (hs.map encS) s = (aget hs s).map Eng.encI := aget_map Eng.encI hs s
  rw [this]
  unfold hv
  cases aget hs s <;> rfl
theorem encS_put (l : List (Bytes × Int)) (s : Bytes) (k : Int) : aput (l.map encS) s (Eng.encI k) = (aput l s k).map encS := by
  unfold aput
  rw [List.map_cons]
  congr 1
  exact adel_map (fun _ v => Eng.encI v) l s

def pidL (i : Nat) : List Int := (List.range i).map fun (j : Nat) => (j : Int) + 1
theorem pidL_succ (i : Nat) : pidL (i + 1) = pidL i ++ [(i : Int) + 1] := by unfold pidL; rw [List.range_succ, List.map_append]; rfl
theorem pidL_at {i j : Nat} (h : j < i) : (pidL i)[j]? = some ((j : Int) + 1) := by
  unfold pidL
  rw [List.getElem?_map, List.getElem?_range h]; rfl
theorem pidL_len (i : Nat) : (pidL i).length = i := by unfold pidL; simp

/-- what runs, what is held, what is counted -/
structure E1 where
  i : Nat
  S : TabS
  h : List (Int × Int)
  hs : List (Bytes × Int)
  es : List MapEntry
  ck : Nat
  pa : Option Addr
  pc : Nat
structure E1.Ok (x : E1) (rows : List Int) (L : LogS) : Prop where
  tb : Tb x.S rows 0 x.i
  le : x.i ≤ rows.length
  le32 : x.i ≤ 32
  vol : (vol8h L x.h).Holds 7 (10 + 8 * x.i)
  hv : ∀ k, k < 3 → hv x.h (idn k) = cntb (rows.take x.i) k
  map : Eng.MapR sv x.es x.ck (x.hs.map encS)
  hs : ∀ k, k < 3 → Proofs.YtnfomoeicgdkkaaGreatDoor.hv x.hs (nm k) = cntb (rows.take x.i) k

/-- files picked, one by one -/
structure E0 where
  k : Nat
  hs : List (Bytes × Int)
  es : List MapEntry
  ck : Nat
  qa : Option Addr
  qc : Nat
def b01 (b : Bool) : Int := if b = true then 1 else 0
structure E0.Ok (x : E0) (r : Int) (c0 : Nat → Int) (sg : Int) : Prop where
  le : x.k ≤ 3
  map : Eng.MapR sv x.es x.ck (x.hs.map encS)
  hs : ∀ k, k < 3 → hv x.hs (nm k) = c0 k + (if k < x.k then sg * b01 (bit r k) else 0)

theorem E0.Ok.put {x : E0} {r : Int} {c0 : Nat → Int} {sg : Int} (h : x.Ok r c0 sg) (h3 : x.k < 3) (hb : bit r x.k = true) {fr : Option (Nat × Value)} (m : ∀ v, Eng.MapR sv (mapPut x.es x.ck (sv (nm x.k)) v fr) (mapClock x.ck fr) (aput (x.hs.map encS) (nm x.k) v)) (qa : Option Addr) (qc : Nat) :
    (⟨x.k + 1, aput x.hs (nm x.k) (hv x.hs (nm x.k) + sg), mapPut x.es x.ck (sv (nm x.k)) (Eng.encI (hv x.hs (nm x.k) + sg)) fr, mapClock x.ck fr, qa, qc⟩ : E0).Ok r c0 sg := by
  refine ⟨h3, by dsimp only; rw [← encS_put]; exact m _, fun k hk => ?_⟩
  dsimp only
  rw [hv_put]
  by_cases e : nm x.k = nm k
  · have := nm_inj h3 hk e
    subst this
    rw [if_pos rfl, h.hs _ hk, if_neg (Nat.lt_irrefl _), if_pos (Nat.lt_succ_self _), hb]
    unfold b01
    rw [if_pos rfl]; omega
  · rw [if_neg e, h.hs _ hk]
    have : k ≠ x.k := fun e2 => e (by rw [e2])
    by_cases h2 : k < x.k
    · rw [if_pos h2, if_pos (by omega)]
    · rw [if_neg h2, if_neg (by omega)]
theorem E0.Ok.stay {x : E0} {r : Int} {c0 : Nat → Int} {sg : Int} (h : x.Ok r c0 sg) (h3 : x.k < 3) (hb : bit r x.k = false) : ({ x with k := x.k + 1 } : E0).Ok r c0 sg := by
  refine ⟨h3, h.map, fun k hk => ?_⟩
  dsimp only
  rw [h.hs _ hk]
  by_cases e : k = x.k
  · subst e
    rw [if_neg (Nat.lt_irrefl _), if_pos (Nat.lt_succ_self _), hb]
    unfold b01
    rw [if_neg (by simp)]; omega
  · by_cases h2 : k < x.k
    · rw [if_pos h2, if_pos (by omega)]
    · rw [if_neg h2, if_neg (by omega)]
theorem E0.Ok.bound {x : E0} {r : Int} {c0 : Nat → Int} {sg : Int} (h : x.Ok r c0 sg) (h3 : x.k < 3) : hv x.hs (nm x.k) = c0 x.k := by
  rw [h.hs _ h3, if_neg (Nat.lt_irrefl _)]; omega
theorem E0.Ok.done {x : E0} {r : Int} {c0 : Nat → Int} {sg : Int} (h : x.Ok r c0 sg) (h3 : x.k = 3) (k : Nat) (hk : k < 3) : hv x.hs (nm k) = c0 k + sg * b01 (bit r k) := by
  rw [h.hs _ hk, if_pos (by omega)]
structure E2 where
  j : Nat
  S : TabS
  h : List (Int × Int)
  hs : List (Bytes × Int)
  es : List MapEntry
  ck : Nat
structure E2.Ok (x : E2) (rows : List Int) (n : Nat) (L : LogS) : Prop where
  tb : Tb x.S rows x.j n
  le : x.j ≤ n
  vol : (vol8h L x.h).Holds 7 300
  hv : ∀ k, k < 3 → hv x.h (idn k) = cntb ((rows.take n).drop x.j) k
  map : Eng.MapR sv x.es x.ck (x.hs.map encS)
  hs : ∀ k, k < 3 → Proofs.YtnfomoeicgdkkaaGreatDoor.hv x.hs (nm k) = cntb ((rows.take n).drop x.j) k
theorem E2.Ok.room {x : E2} {rows : List Int} {n : Nat} {L : LogS} (h : x.Ok rows n L) (hj : x.j < n) (hn : n ≤ rows.length) (i : Int) : (((bits (rows.getD x.j 0) 3).map idn).count i : Int) ≤ Proofs.YtnfomoeicgdkkaaGreatDoor.hv x.h i := by
  by_cases e : ∃ k, k < 3 ∧ idn k = i
  · obtain ⟨k, hk, rfl⟩ := e
    rw [count_bits _ k hk, h.hv k hk, cntb_drop hj hn]
    have := cntb_pos ((rows.take n).drop (x.j + 1)) k
    omega
  · rw [count_other _ _ fun k hk e2 => e ⟨k, hk, e2⟩]
    exact (h.vol.heldB i).1
theorem nm_at : ∀ k, k < 3 → [sv (nm 0), sv (nm 1), sv (nm 2)][k]? = some (sv (nm k))
  | 0, _ => rfl
  | 1, _ => rfl
  | 2, _ => rfl
  | k + 3, h => by omega

section
variable {P : Program} {F : Hp} {l : Fr} {H : List HA} {C : Fr → List HA → Prop} {es : List EG} {i d : Nat} {c : Bool}
theorem Ops.shrI {x y : Operand} {k' : IntKind} {a : Int} {j : Nat} {jj : Int} (hx : get l x = some (.int .i64 a)) (hy : get l y = some (.int k' jj)) (hj : jj = (j : Int)) (kk : Ops P F es ((d, .int .i64 (a.fdiv (2 ^ (min j 64)))) :: l) H C) :
    Ops P F (EG.mk i (some d) none c (.bin .shr x y) :: es) l H C :=
  Ops.p (by
    subst hj
    have e2 : ¬ (((j : Nat) : Int) < 0) := by omega
    simp only [pv, hx, hy, binVal, if_neg e2, Int.toNat_natCast]
    rfl) kk
theorem Ops.andI {x y : Operand} {a b : Int} (hx : get l x = some (.int .i64 a)) (hy : get l y = some (.int .i64 b))
    (kk : Ops P F es ((d, .int .i64 (IntKind.i64.wrap ((BitVec.ofInt 64 a &&& BitVec.ofInt 64 b).toNat : Int))) :: l) H C) : Ops P F (EG.mk i (some d) none c (.bin .and x y) :: es) l H C :=
  Ops.p (by simp only [pv, hx, hy, binVal, if_true]; rfl) kk
end

attribute [local irreducible] Ops Segs Run Spec tree8

set_option maxHeartbeats 4000000 in
theorem law08_ProcEnds (x : Value) (rows : List Int) (F : Hp) (g : Glob F) (hx : RdE encI F x rows) : Spec Tryz.prog 7 [x].toArray F [] fun u H => u = .bool true ∧ H = [] := by
  obtain ⟨oa, oc, rfl, hrd⟩ := hx
  refine Spec.enterC (n := 151) Tryz.func7 rfl (by simp) (by kernel_rfl) fun ec hc => ?_
  cbv at hc
  injection hc with hc
  subst hc
  simp only [argFr, Nat.reduceAdd]
  refine go ?_
  refine Ops.call1 rfl .nil (fun F' e kn => law08_alive F' (g.ext e)) ?_
  rintro u G ⟨rfl, rfl⟩
  simp only [List.nil_append]
  refine go ?_
  refine Run.condF rfl ?_
  refine go ?_
  refine Ops.call1 rfl .nil (fun F' e kn => law08_open F' (g.ext e)) ?_
  rintro u G ⟨w, d, L, D, rs, rfl, rfl, well, _⟩
  simp only [List.cons_append, List.nil_append]
  have holds1 : (vol8h L []).Holds 7 10 := ⟨well.inv, well.few, fun i c h => by simp [vol8h, aget] at h⟩
  rw [vol8_eq]
  clear well
  refine go ?_
  refine Ops.call1 rfl .nil (fun F' e kn => proc_New w F') ?_
  rintro u G ⟨tb, rfl, rfl⟩
  simp only [List.cons_append, List.nil_append]
  refine go ?_
  refine Ops.mkm fun m => ?_
  refine go ?_
  refine Ops.lit [] rfl rfl fun b0 => ?_
  refine go ?_
  refine Ops.lit [sv (nm 0), sv (nm 1), sv (nm 2)] rfl rfl fun nb => ?_
  refine go1 ?_
  refine Ops.nil (Segs.nil ?_)
  refine Run.lendD [.pt nb (.cells [sv (nm 0), sv (nm 1), sv (nm 2)].toArray 9 (0, 0))] (.cons s0 .nil) fun F1 x1 k1 => ?_
  have hN : F1 nb = some (.cells [sv (nm 0), sv (nm 1), sv (nm 2)].toArray 9 (0, 0)) := k1 _ _ m0
  have g1 := g.ext x1
  have hrd1 : rows = [] ∨ ∃ b o L T fz, oa = some ⟨b, o, none⟩ ∧ F1 b = some (.cells (List.toArray L) T fz) ∧ ∀ i x, rows[i]? = some x → L[o + i]? = some (encI x) := by
    rcases hrd with h | ⟨b, o, L, T, fz, h1, h2, h3⟩
    · exact .inl h
    · exact .inr ⟨b, o, L, T, fz, h1, x1 _ _ h2, h3⟩
  clear hrd
  refine Run.seq (Run.meet (ι := E1) (fun x => x.Ok rows L ∧ (x.i = rows.length ∨ x.i = 32))
    (fun x => [(7, .slice (some ⟨nb, 0, none⟩) 3 3), (6, .slice x.pa x.i x.pc), (5, .map (some m)), (4, ptr tb), (3, ptr w), (0, .slice oa rows.length oc)])
    (fun x => [OwnS x.pa x.i x.pc 1 3 ((pidL x.i).map encI), TabP tb w x.S, VolP w d (vol8h L x.h), .pt m (.map x.es.toArray x.ck)]) ?_ ?_)
  · rintro ⟨n, S, hh, hs, es, ck, pa, pc⟩ ⟨ok, hn⟩
    have hn32 := ok.le32
    have hnle := ok.le
    dsimp only at ok hn hn32 hnle ⊢
    refine Run.open_ s0 fun G hG => ?_
    refine Run.lendD G (take_app G _) fun F2 x2 k2 => ?_
    have hP := (OwnI.rdE (zs := pidL n) hG k2).2
    obtain ⟨pa', pc', ep, hpr⟩ := hP
    rw [pidL_len] at ep
    cases ep
    clear hG k2
    have hN2 := x2 _ _ hN
    have hrd2 : rows = [] ∨ ∃ b o L T fz, oa = some ⟨b, o, none⟩ ∧ F2 b = some (.cells (List.toArray L) T fz) ∧ ∀ i x, rows[i]? = some x → L[o + i]? = some (encI x) := by
      rcases hrd1 with h | ⟨b, o, L, T, fz, h1, h2, h3⟩
      · exact .inl h
      · exact .inr ⟨b, o, L, T, fz, h1, x2 _ _ h2, h3⟩
    have g2 := g1.ext x2
    clear hrd1 hN
    refine go ?_
    refine Run.loopI (ι := E2) (fun y => n - y.j) (fun y => y.Ok rows n L)
      (fun y => [(78, .int .i64 y.j), (77, .int .i64 n), (76, .slice pa n pc), (7, .slice (some ⟨nb, 0, none⟩) 3 3), (5, .map (some m)), (4, ptr tb), (3, ptr w), (0, .slice oa rows.length oc)])
      (fun y => [TabP tb w y.S, VolP w d (vol8h L y.h), .pt m (.map y.es.toArray y.ck)])
      ⟨0, S, hh, hs, es, ck⟩ ⟨ok.tb, Nat.zero_le _, ok.vol.mono (by dsimp only; omega), ok.hv, ok.map, ok.hs⟩
      (.cons rfl (.cons rfl (.cons rfl (.cons rfl (.cons rfl (.cons rfl (.cons rfl (.cons rfl .nil)))))))) (fun h q => q) ?_
    clear ok
    rintro ⟨j, S, hh, hs, es, ck⟩ ok ih
    have ihn := ih
    clear ih
    dsimp only at ok ihn ⊢
    have hjn := ok.le
    dsimp only at hjn
    refine go ?_
    refine Run.condD rfl (fun hlt => ?_) (fun hge => ?_)
    rotate_left
    · have e : j = n := by omega
      subst e
      have he := ok.tb.empty
      dsimp only at he
      refine Run.exit rfl ?_
      refine go ?_
      refine Ops.call1 rfl (.cons s0 .nil) (fun F' e kn => proc_List tb w S 1000 (ok.tb.ok hn32) (by rw [he]; decide) F') ?_
      rintro u G2 ⟨a2, c2, rfl, rfl⟩
      rw [he]
      simp only [List.cons_append, List.nil_append]
      refine go ?_
      exact Run.ret1 Tryz.func7 rfl rfl (H' := []) (fun h q => trivial) ⟨rfl, rfl⟩
    have hlt' : j < n := by omega
    have hlr : j < rows.length := by omega
    have hel : rows[j]? = some rows[j] := List.getElem?_eq_getElem hlr
    have hget : rows.getD j 0 = rows[j] := by rw [List.getD_eq_getElem?_getD, hel]; rfl
    rcases hrd2 with hv0 | ⟨b, o, Lc, T, fz, rfl, hF, hrd⟩
    · rw [hv0] at hlr; simp at hlr
    rcases hpr with hv0 | ⟨b2, o2, Lc2, T2, fz2, rfl, hF2, hrd3⟩
    · have := pidL_len n; rw [hv0] at this; simp at this; omega
    have hroom := ok.room hlt' hnle
    dsimp only at hroom
    obtain ⟨S2, S3, h3, ek, hok2, ep, htb, hhv, hall⟩ := kill8 ok.tb hlt' hn32 L hh hroom
    obtain ⟨S3', h3', ee, htb', hhv', hall'⟩ := exit8 ok.tb hlt' L hh hroom
    have hvol := ok.vol.all ((bits (rows.getD j 0) 3).map idn)
    have hvol' := hvol
    dsimp only at ek ep htb hall ee htb' hall' hvol hvol'
    rw [hall] at hvol
    rw [hall'] at hvol'
    rw [hget] at hhv hhv'
    generalize rows[j] = r at hel hget hhv hhv'
    refine go ?_
    refine Ops.ixS rfl rfl ⟨by omega, by omega⟩ ?_
    refine Ops.ldF rfl hF2 (by rw [Int.toNat_natCast, Nat.mul_one]; exact hrd3 j _ (pidL_at hlt')) ?_
    refine go ?_
    refine Ops.ixS rfl rfl ⟨by omega, by omega⟩ ?_
    refine Ops.ldF rfl hF (by rw [Int.toNat_natCast, Nat.mul_one]; exact hrd j _ hel) ?_
    refine Ops.shrI (j := 3) rfl rfl rfl ?_
    refine Ops.andI rfl rfl ?_
    refine go1 ?_
    refine Ops.nil (Segs.nil ?_)
    refine Run.meet (ι := TabS × List (Int × Int)) (fun y => Tb y.1 rows (j + 1) n ∧ (vol8h L y.2).Holds 7 300 ∧ ∀ i, hv y.2 i = hv hh i - (((bits r 3).map idn).count i : Nat))
      (fun y => [(15, .int .i64 j), (78, .int .i64 j), (77, .int .i64 n), (76, .slice (some ⟨b2, o2, none⟩) n pc), (7, .slice (some ⟨nb, 0, none⟩) 3 3), (5, .map (some m)), (4, ptr tb), (3, ptr w), (0, .slice (some ⟨b, o, none⟩) rows.length oc)])
      (fun y => [TabP tb w y.1, VolP w d (vol8h L y.2), .pt m (.map es.toArray ck)]) ?_ ?_
    rotate_left
    · intro join
      refine Run.condD (p := bitV r 3 = 1) rfl (fun hb => ?_) (fun hb => ?_)
      · refine go ?_
        refine Ops.call1 rfl (.cons s0 .nil) (fun F' e kn => proc_Kill tb w S ((j : Int) + 1) F') ?_
        rintro u G2 ⟨rfl, rfl⟩
        rw [ek]
        simp only [List.cons_append, List.nil_append]
        refine go ?_
        refine Run.condF rfl ?_
        refine go ?_
        refine Ops.call1 rfl (.cons s0 (.cons s0 .nil)) (fun F' e kn => proc_Pick tb w d S2 (vol8h L hh) 7 300 1000 hok2 ok.vol (by decide) ((j : Int) + 1) F') ?_
        rintro u G2 ⟨rfl, rfl⟩
        rw [ep]
        simp only [List.cons_append, List.nil_append]
        refine go ?_
        refine Run.condF rfl ?_
        refine Run.skip ?_
        exact Run.again (join (S3, h3) ⟨htb, hvol, hhv⟩) (.cons rfl (.cons rfl (.cons rfl (.cons rfl (.cons rfl (.cons rfl (.cons rfl (.cons rfl (.cons rfl .nil))))))))) (fun h q => q)
      · refine go ?_
        refine Ops.call1 rfl (.cons s0 (.cons s0 .nil)) (fun F' e kn => proc_Exit tb w d S (vol8h L hh) 7 300 1000 (ok.tb.ok hn32) ok.vol (by decide) ((j : Int) + 1) F') ?_
        rintro u G2 ⟨rfl, rfl⟩
        rw [ee]
        simp only [List.cons_append, List.nil_append]
        refine go ?_
        refine Run.condF rfl ?_
        refine Run.skip ?_
        exact Run.again (join (S3', h3') ⟨htb', hvol', hhv'⟩) (.cons rfl (.cons rfl (.cons rfl (.cons rfl (.cons rfl (.cons rfl (.cons rfl (.cons rfl (.cons rfl .nil))))))))) (fun h q => q)
    clear hroom ek hok2 ep htb hhv hall ee htb' hhv' hall' hvol hvol' hF2 hrd3
    rintro ⟨S3, h3⟩ ⟨htb, hvol, hhv⟩
    dsimp only at htb hvol hhv ⊢
    refine go ?_
    refine Run.loopI (ι := E0) (fun y => 3 - y.k) (fun y => y.Ok r (cntb ((rows.take n).drop j)) (-1))
      (fun y => [(112, .int .i64 y.k), (111, .int .i64 3), (110, .slice (some ⟨nb, 0, none⟩) 3 3), (15, .int .i64 j), (78, .int .i64 j), (77, .int .i64 n), (76, .slice (some ⟨b2, o2, none⟩) n pc), (7, .slice (some ⟨nb, 0, none⟩) 3 3), (5, .map (some m)), (4, ptr tb), (3, ptr w), (0, .slice (some ⟨b, o, none⟩) rows.length oc)])
      (fun y => [TabP tb w S3, VolP w d (vol8h L h3), .pt m (.map y.es.toArray y.ck)])
      ⟨0, hs, es, ck, none, 0⟩ ⟨Nat.zero_le _, ok.map, fun k hk => by dsimp only; rw [if_neg (by omega)]; have := ok.hs k hk; dsimp only at this; omega⟩
      (.cons rfl (.cons rfl (.cons rfl (.cons rfl (.cons rfl (.cons rfl (.cons rfl (.cons rfl (.cons rfl (.cons rfl (.cons rfl (.cons rfl .nil)))))))))))) (fun h q => q) ?_
    rintro ⟨k, hs', es', ck', qa, qc⟩ ok0 ih0
    have ihn0 := ih0
    clear ih0
    dsimp only at ok0 ihn0 ⊢
    have hk3 := ok0.le
    dsimp only at hk3
    refine go ?_
    refine Run.condD rfl (fun hlt0 => ?_) (fun hge0 => ?_)
    rotate_left
    · have e3 : k = 3 := by omega
      subst e3
      refine Run.exit rfl ?_
      refine go ?_
      refine Run.lp (Run.again (ihn ⟨j + 1, S3, h3, hs', es', ck'⟩ (by dsimp only; omega) ⟨htb, hlt', hvol, fun k hk => ?_, ok0.map, fun k hk => ?_⟩)
        (.cons rfl (.cons rfl (.cons rfl (.cons rfl (.cons rfl (.cons rfl (.cons rfl (.cons rfl .nil)))))))) (fun h q => q))
      · dsimp only
        have h1 := ok.hv k hk
        have h2 := cntb_drop hlt' hnle k
        dsimp only at h1
        rw [hhv, count_bits r k hk, h1, h2, hget]
        omega
      · dsimp only
        have h1 := ok0.done rfl k hk
        have h2 := cntb_drop hlt' hnle k
        dsimp only at h1
        rw [h1, h2, hget]
        unfold b01
        omega
    have hk : k < 3 := by omega
    have hc0 := ok0.bound hk
    dsimp only at hc0
    have hcp := cntb_pos ((rows.take n).drop j) k
    have hcl := cntb_le ((rows.take n).drop j) k
    rw [List.length_drop, List.length_take] at hcl
    have hbd : 0 ≤ hv hs' (nm k) ∧ hv hs' (nm k) ≤ 32 := by rw [hc0]; omega
    refine go ?_
    refine Ops.ixS rfl rfl ⟨by omega, by omega⟩ ?_
    refine Ops.ldF rfl hN2 (by rw [Int.toNat_natCast, Nat.mul_one, Nat.zero_add]; exact nm_at k hk) ?_
    refine go ?_
    refine Ops.ixS rfl rfl ⟨by omega, by omega⟩ ?_
    refine Ops.ldF rfl hF (by rw [Int.toNat_natCast, Nat.mul_one]; exact hrd j _ hel) ?_
    refine go ?_
    refine Ops.shrI rfl rfl rfl ?_
    refine Ops.andI rfl rfl ?_
    refine go1 ?_
    refine Ops.nil (Segs.nil ?_)
    refine Run.meet (ι := E0) (fun y => y.k = k + 1 ∧ y.Ok r (cntb ((rows.take n).drop j)) (-1))
      (fun y => [(20, sv (nm k)), (112, .int .i64 k), (111, .int .i64 3), (110, .slice (some ⟨nb, 0, none⟩) 3 3), (15, .int .i64 j), (78, .int .i64 j), (77, .int .i64 n), (76, .slice (some ⟨b2, o2, none⟩) n pc), (7, .slice (some ⟨nb, 0, none⟩) 3 3), (5, .map (some m)), (4, ptr tb), (3, ptr w), (0, .slice (some ⟨b, o, none⟩) rows.length oc)])
      (fun y => [TabP tb w S3, VolP w d (vol8h L h3), .pt m (.map y.es.toArray y.ck)]) ?_ ?_
    rotate_left
    · intro join
      refine Run.condD (p := bitV r k = 1) rfl (fun hb => ?_) (fun hb => ?_)
      · have hbit : bit r k = true := decide_eq_true hb
        obtain ⟨fr, hf, hg, hput, _⟩ := ok0.map.find same_s (nm k)
        dsimp only at hf hg hput
        refine go ?_
        refine Ops.lkp rfl rfl m2 hf ?_
        rw [foundS hg]
        refine go ?_
        rw [Int.sub_eq_add_neg]
        refine Ops.mup rfl rfl rfl hf u2 ?_
        refine go1 ?_
        refine Ops.nil (Segs.nil ?_)
        refine Run.again (join ⟨k + 1, aput hs' (nm k) (hv hs' (nm k) + -1), mapPut es' ck' (sv (nm k)) (encI (hv hs' (nm k) + -1)) fr, mapClock ck' fr, none, 0⟩ ⟨rfl, ok0.put hk hbit hput none 0⟩)
          (.cons rfl (.cons rfl (.cons rfl (.cons rfl (.cons rfl (.cons rfl (.cons rfl (.cons rfl (.cons rfl (.cons rfl (.cons rfl (.cons rfl (.cons rfl .nil))))))))))))) (fun h q => q)
      · have hbit : bit r k = false := decide_eq_false hb
        refine Run.skip ?_
        exact Run.again (join ⟨k + 1, hs', es', ck', qa, qc⟩ ⟨rfl, ok0.stay hk hbit⟩)
          (.cons rfl (.cons rfl (.cons rfl (.cons rfl (.cons rfl (.cons rfl (.cons rfl (.cons rfl (.cons rfl (.cons rfl (.cons rfl (.cons rfl (.cons rfl .nil))))))))))))) (fun h q => q)
    clear hc0 hbd
    rintro ⟨k1, hs2, es2, ck2, qa2, qc2⟩ ⟨ek1, ok2⟩
    dsimp only at ek1 ok2 ⊢
    subst ek1
    have okT := hvol.inv.ok hvol.few
    have hfd : (vol8h L h3).T.find (nm k) = idn k := find8 k hk
    refine Run.open_ s1 fun G hG => ?_
    obtain ⟨t, l, r', es3, ck3, adr, Dp, hm, rfl⟩ := hG
    simp only [List.cons_append]
    refine go ?_
    refine Ops.call1 rfl (.cons s1 .nil) (fun F' e kn => tree_Find Dp t (vol8h L h3).T adr 7 okT (nm k) F' (g2.ext e)) ?_
    rintro u G2 ⟨rfl, rfl⟩
    rw [hfd]
    simp only [List.cons_append, List.nil_append]
    refine go1 ?_
    refine Ops.nil (Segs.nil ?_)
    refine Run.conseq (H' := [VolP w d (vol8h L h3), TabP tb w S3, .pt m (.map es2.toArray ck2)]) (fun h q => fold_app (I := VolI w d (vol8h L h3)) (R := [TabP tb w S3, .pt m (.map es2.toArray ck2)]) ⟨t, l, r', es3, ck3, adr, Dp, hm, rfl⟩ h (seps_swap q)) ?_
    obtain ⟨fr, hf, hg, hput, _⟩ := ok2.map.find same_s (nm k)
    dsimp only at hf hg
    have hsame : (vol8h L h3).held (idn k) = hv hs2 (nm k) := by
      have h1 := ok.hv k hk
      have h2 := ok2.hs k hk
      have h4 : (vol8h L h3).held (idn k) = hv h3 (idn k) := rfl
      dsimp only at h1 h2
      rw [h4, hhv, count_bits r k hk, h1, h2, if_pos (Nat.lt_succ_self _)]
      unfold b01
      omega
    refine go ?_
    refine Segs.lend [_] (.cons s2 .nil) fun F3 x3 k3 => ?_
    refine go ?_
    refine Ops.lkpF rfl rfl (k3 _ _ m0) hf ?_
    rw [foundS hg]
    refine Ops.call1 rfl (.cons s0 .nil) (fun F' e kn => vol_Held w d (vol8h L h3) (idn k) F') ?_
    rintro u G2 ⟨rfl, rfl⟩
    rw [hsame]
    simp only [List.cons_append, List.nil_append]
    refine go ?_
    refine Run.condF (by simp [get, look]) ?_
    refine go ?_
    exact Run.lp (Run.again (ihn0 ⟨k + 1, hs2, es2, ck2, qa2, qc2⟩ (by dsimp only; omega) ok2)
      (.cons rfl (.cons rfl (.cons rfl (.cons rfl (.cons rfl (.cons rfl (.cons rfl (.cons rfl (.cons rfl (.cons rfl (.cons rfl (.cons rfl .nil)))))))))))) (fun h q => take_sub (.cons s2 (.cons s1 (.cons s0 .nil))) h q))
  · intro fin
    refine go ?_
    refine Run.loopI (ι := E1) (fun x => rows.length - x.i) (fun x => x.Ok rows L)
      (fun x => [(34, .int .i64 x.i), (33, .int .i64 rows.length), (32, .slice oa rows.length oc), (7, .slice (some ⟨nb, 0, none⟩) 3 3), (6, .slice x.pa x.i x.pc), (5, .map (some m)), (4, ptr tb), (3, ptr w), (0, .slice oa rows.length oc)])
      (fun x => [OwnS x.pa x.i x.pc 1 3 ((pidL x.i).map encI), TabP tb w x.S, VolP w d (vol8h L x.h), .pt m (.map x.es.toArray x.ck)])
      ⟨0, ⟨[], 1⟩, [], [], [], 0, some ⟨b0, 0, none⟩, 0⟩ ⟨Tb.new rows, Nat.zero_le _, Nat.zero_le _, holds1, fun k hk => rfl, MapR.nil, fun k hk => rfl⟩
      (.cons rfl (.cons rfl (.cons rfl (.cons rfl (.cons rfl (.cons rfl (.cons rfl (.cons rfl (.cons rfl .nil))))))))) (fun h q => ?_) ?_
    · have q1 := take_sub (.cons s0 (.cons s1 (.cons s1 (.cons s0 .nil)))) h q
      exact own_of_pt (xs := []) rfl h q1
    rintro ⟨i, S, hh, hs, es, ck, pa, pc⟩ ok ih
    have ihn := ih
    clear ih
    dsimp only at ok ihn ⊢
    have hi32 := ok.le32
    have hile := ok.le
    dsimp only at hi32 hile
    refine go ?_
    refine Run.condD rfl (fun hlt => ?_) (fun hge => ?_)
    rotate_left
    · refine Run.exit rfl ?_
      exact Run.again (fin ⟨i, S, hh, hs, es, ck, pa, pc⟩ ⟨ok, .inl (by dsimp only; omega)⟩) (.cons rfl (.cons rfl (.cons rfl (.cons rfl (.cons rfl (.cons rfl .nil)))))) (fun h q => q)
    have hlt' : i < rows.length := by omega
    have hel : rows[i]? = some rows[i] := List.getElem?_eq_getElem hlt'
    have hget : rows.getD i 0 = rows[i] := by rw [List.getD_eq_getElem?_getD, hel]; rfl
    rcases hrd1 with hv0 | ⟨b, o, Lc, T, fz, rfl, hF, hrd⟩
    · rw [hv0] at hlt'; simp at hlt'
    generalize rows[i] = r at hel hget
    refine go ?_
    refine Ops.ixS rfl rfl ⟨by omega, by omega⟩ ?_
    refine Ops.ldF rfl hF (by rw [Int.toNat_natCast, Nat.mul_one]; exact hrd i _ hel) ?_
    refine go ?_
    refine Run.condD rfl (fun h32 => ?_) (fun h32 => ?_)
    · refine Run.exit rfl ?_
      exact Run.again (fin ⟨i, S, hh, hs, es, ck, pa, pc⟩ ⟨ok, .inr (by dsimp only; omega)⟩) (.cons rfl (.cons rfl (.cons rfl (.cons rfl (.cons rfl (.cons rfl .nil)))))) (fun h q => q)
    refine go ?_
    refine Ops.lit [] rfl rfl fun b1 => ?_
    refine go ?_
    refine Run.loopI (ι := E0) (fun y => 3 - y.k) (fun y => y.Ok r (cntb (rows.take i)) 1)
      (fun y => [(44, .int .i64 y.k), (43, .int .i64 3), (42, .slice (some ⟨nb, 0, none⟩) 3 3), (10, .slice y.qa (bits r y.k).length y.qc), (9, .int .i64 r), (5, .map (some m)), (34, .int .i64 i), (33, .int .i64 rows.length), (32, .slice (some ⟨b, o, none⟩) rows.length oc), (7, .slice (some ⟨nb, 0, none⟩) 3 3), (6, .slice pa i pc), (4, ptr tb), (3, ptr w), (0, .slice (some ⟨b, o, none⟩) rows.length oc)])
      (fun y => [OwnS y.qa (bits r y.k).length y.qc 1 9 (((bits r y.k).map nm).map sv), .pt m (.map y.es.toArray y.ck), OwnS pa i pc 1 3 ((pidL i).map encI), TabP tb w S, VolP w d (vol8h L hh)])
      ⟨0, hs, es, ck, some ⟨b1, 0, none⟩, 0⟩ ⟨Nat.zero_le _, ok.map, fun k hk => by dsimp only; rw [if_neg (by omega)]; have := ok.hs k hk; dsimp only at this; omega⟩
      (.cons rfl (.cons rfl (.cons rfl (.cons (by rfl) (.cons rfl (.cons rfl (.cons rfl (.cons rfl (.cons rfl (.cons rfl (.cons rfl (.cons rfl (.cons rfl (.cons rfl .nil)))))))))))))) (fun h q => ?_) ?_
    · have q1 := take_sub (.cons s0 (.cons s3 (.cons s0 (.cons s0 (.cons s0 .nil))))) h q
      exact own_of_pt (xs := []) rfl h q1
    · rintro ⟨k, hs', es', ck', qa, qc⟩ ok0 ih0
      have ihn0 := ih0
      clear ih0
      dsimp only at ok0 ihn0 ⊢
      have hk3 := ok0.le
      dsimp only at hk3
      refine go ?_
      refine Run.condD rfl (fun hlt0 => ?_) (fun hge0 => ?_)
      · have hk : k < 3 := by omega
        refine go ?_
        refine Ops.ixS rfl rfl ⟨by omega, by omega⟩ ?_
        refine Ops.ldF rfl hN (by rw [Int.toNat_natCast, Nat.mul_one, Nat.zero_add]; exact nm_at k hk) ?_
        refine go ?_
        refine Ops.shrI rfl rfl rfl ?_
        refine Ops.andI rfl rfl ?_
        refine go ?_
        have hbs := bits_succ r k
        have hc0 := ok0.bound hk
        dsimp only at hc0
        have hcp := cntb_pos (rows.take i) k
        have hcl := cntb_le (rows.take i) k
        rw [List.length_take] at hcl
        have hbd : 0 ≤ hv hs' (nm k) ∧ hv hs' (nm k) ≤ 32 := by rw [hc0]; omega
        refine Run.condD (p := bitV r k = 1) rfl (fun hb => ?_) (fun hb => ?_)
        · have hbit : bit r k = true := decide_eq_true hb
          rw [if_pos hbit] at hbs
          obtain ⟨fr, hf, hg, hput, _⟩ := ok0.map.find same_s (nm k)
          dsimp only at hf hg hput
          refine go ?_
          refine Ops.lit [sv (nm k)] rfl rfl fun b2 => ?_
          refine Ops.app (m := 1) (ys := [sv (nm k)]) rfl rfl rfl s1 (shows_pt m0 (Nat.le_refl 1) rfl) (fun v hv => by rw [List.mem_singleton] at hv; subst hv; rfl) rfl (by decide) (by have := bits_len r k; omega) fun a' c' => ?_
          refine go ?_
          refine Ops.lkp rfl rfl m2 hf ?_
          rw [foundS hg]
          refine go ?_
          refine Ops.mup rfl rfl rfl hf u2 ?_
          refine go ?_
          refine Run.lp (Run.again (ihn0 ⟨k + 1, aput hs' (nm k) (hv hs' (nm k) + 1), mapPut es' ck' (sv (nm k)) (encI (hv hs' (nm k) + 1)) fr, mapClock ck' fr, a', c'⟩ (by dsimp only; omega) (ok0.put hk hbit hput a' c'))
            (.cons rfl (.cons rfl (.cons rfl (.cons (by dsimp only; rw [hbs, List.length_append]; rfl) (.cons rfl (.cons rfl (.cons rfl (.cons rfl (.cons rfl (.cons rfl (.cons rfl (.cons rfl (.cons rfl (.cons rfl .nil)))))))))))))) (fun h q => ?_))
          dsimp only
          rw [hbs, List.length_append, List.map_append, List.map_append]
          exact take_sub (.cons s0 (.cons s1 (.cons s1 (.cons s1 (.cons s1 .nil))))) h q
        · have hbit : bit r k = false := decide_eq_false hb
          rw [if_neg (by rw [hbit]; simp), List.append_nil] at hbs
          refine go ?_
          refine Run.lp (Run.again (ihn0 ⟨k + 1, hs', es', ck', qa, qc⟩ (by dsimp only; omega) (ok0.stay hk hbit))
            (.cons rfl (.cons rfl (.cons rfl (.cons (by dsimp only; rw [hbs]; rfl) (.cons rfl (.cons rfl (.cons rfl (.cons rfl (.cons rfl (.cons rfl (.cons rfl (.cons rfl (.cons rfl (.cons rfl .nil)))))))))))))) (fun h q => ?_))
          dsimp only
          rw [hbs]
          exact q
      · have e3 : k = 3 := by omega
        subst e3
        refine Run.exit rfl ?_
        refine Run.open_ s0 fun G hG => ?_
        have hP : ∀ F', Known G F' → RdTs F' (.slice qa (bits r 3).length qc) ((bits r 3).map nm) := fun F' k => by
          have := (OwnI.rdE (zs := (bits r 3).map nm) hG k).2
          exact this
        clear hG
        refine Run.conseq (H' := .pt m (.map es'.toArray ck') :: OwnS pa i pc 1 3 ((pidL i).map encI) :: TabP tb w S :: VolP w d (vol8h L hh) :: G) (fun h q => seps_comm (A := G) h q) ?_
        obtain ⟨S', h', hsp, htb, hhv, hall⟩ := spawn8 ok.tb (by omega : i < 32) L hh
        rw [hget] at hsp hhv hall
        have hvol := ok.vol.holdAll ((bits r 3).map nm) []
        dsimp only at hsp htb hhv hvol
        rw [hall] at hvol
        have hl3 := bits_len r 3
        refine go ?_
        refine Ops.call1 rfl (.cons s2 (.cons s2 .nil)) (fun F' e kn => proc_Spawn tb w d S (vol8h L hh) 7 (10 + 8 * i) 1000 (ok.tb.ok hi32) (by decide) ok.vol (by omega) [117] _ ((bits r 3).map nm) F' (g1.ext e)
          (hP F' fun n o hm => kn n o (.tail _ (.tail _ hm))) (by rw [List.length_map]; omega)) ?_
        rintro u G2 ⟨rfl, rfl⟩
        rw [hsp]
        simp only [List.cons_append, List.nil_append]
        refine go ?_
        refine Run.condF rfl ?_
        refine go ?_
        refine Ops.lit [encI ((i : Int) + 1)] rfl rfl fun b3 => ?_
        refine Ops.app (m := 1) (ys := [encI ((i : Int) + 1)]) rfl rfl rfl s4 (shows_pt m0 (Nat.le_refl 1) rfl) (fun v hv => by rw [List.mem_singleton] at hv; subst hv; rfl) rfl (by decide) (by omega) fun a' c' => ?_
        refine go ?_
        refine Run.lp (Run.again (ihn ⟨i + 1, S', h', hs', es', ck', a', c'⟩ (by dsimp only; omega) ⟨htb, hlt', by dsimp only; omega, hvol.mono (by dsimp only; rw [List.length_map]; omega), fun k hk => ?_, ok0.map, fun k hk => ?_⟩)
            (.cons rfl (.cons rfl (.cons rfl (.cons rfl (.cons rfl (.cons rfl (.cons rfl (.cons rfl (.cons rfl .nil))))))))) (fun h q => ?_))
        · dsimp only
          rw [hhv, count_bits r k hk, cntb_take hlt' k, hget]
          have := ok.hv k hk
          dsimp only at this
          rw [this]
        · dsimp only
          have := ok0.done rfl k hk
          dsimp only at this
          rw [this, cntb_take hlt' k, hget]
          unfold b01
          rw [Int.one_mul]
        · dsimp only
          rw [pidL_succ, List.map_append]
          exact take_sub (.cons s0 (.cons s1 (.cons s1 (.cons s1 .nil)))) h q
end Eng
end Go.Proofs.YtnfomoeicgdkkaaGreatDoor

/- What came in is read: ints. -/
set_option linter.unusedSimpArgs false
set_option linter.unusedVariables false
namespace Go.Proofs.YtnfomoeicgdkkaaGreatDoor
open Go.ChangeShapes Go.WideShapes Go.ChangeAt Go.RowKit
namespace Eng
variable {H : Type} {enc : TypeId × Value → H} {w : World} {base : Nat} {sp : Nat → Bool} {held : Bool}
def RdI1 (cs : List Value) (m : Int) : Prop := cs = [encI m]
theorem arg_int {P : Program} {e : TypeId} (he : P.underlying e = some (.int .i64)) (n : Nat) (cs : List Value) (y : DataW H × List MemPlace) (h : DataW.trod enc P w base sp held n e cs = some y) : ∃ m, RdI1 cs m := by
  obtain ⟨m, e, _⟩ := trod_num he n cs y h
  exact ⟨m, e⟩
theorem RdL.e {α : Type} {enc : α → Value} {Q : List Value → α → Prop} (hQ : ∀ cs a, Q cs a → cs = [enc a]) {F : Hp} {v : Value} {xs : List α} (h : RdL F 1 Q v xs) : RdE enc F v xs := by
  obtain ⟨a, c, rfl, h | ⟨b, o, L, T, fz, ha, hF, hl, hq⟩⟩ := h
  · exact ⟨a, c, rfl, .inl h⟩
  · refine ⟨a, c, rfl, .inr ⟨b, o, L, T, fz, ha, hF, fun i x hi => ?_⟩⟩
    have h1 := hQ _ _ (hq i x hi)
    rw [Nat.mul_one] at h1
    exact one_at h1
end Eng
end Go.Proofs.YtnfomoeicgdkkaaGreatDoor
