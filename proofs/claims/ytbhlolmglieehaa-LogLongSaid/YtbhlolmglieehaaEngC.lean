/- What loads, stores and new blocks do to a world of which some blocks are known. -/
import Derived.Test.YtbhlolmglieehaaEngB
set_option linter.unusedSimpArgs false
set_option linter.unusedVariables false
namespace Go.Proofs.Ytbhlolmglieehaa
namespace Eng

def upd (h : Hp) (b : Nat) (o : Obj) : Hp := fun n => if n = b then some o else h n

def setBlk (w : World) (b : Nat) (o : Obj) : World := { w with heap := w.heap.setIfInBounds b o }
def newBlk (w : World) (o : Obj) : World := { w with heap := w.heap.push o }

theorem setBlk_get {w : World} {b : Nat} {o o' : Obj} (h : w.heap[b]? = some o') (n : Nat) : (setBlk w b o).heap[n]? = if n = b then some o else w.heap[n]? := by
  have hb : b < w.heap.size := by
    rcases Nat.lt_or_ge b w.heap.size with h1 | h1
    · exact h1
    · simp [Array.getElem?_eq_none h1] at h
  simp only [setBlk, Array.getElem?_setIfInBounds]
  by_cases e : n = b
  · subst e; simp [hb]
  · rw [if_neg (by omega), if_neg e]

theorem newBlk_get (w : World) (o : Obj) (n : Nat) : (newBlk w o).heap[n]? = if n = w.heap.size then some o else w.heap[n]? := by
  simp only [newBlk, Array.getElem?_push]

theorem upd_split {h a r : Hp} {b : Nat} {o : Obj} {o' : Obj} (s : Split h a r) (e : a b = some o') : Split (upd h b o) (upd a b o) r := by
  refine ⟨fun n => ?_, fun n => ?_⟩
  · by_cases hn : n = b
    · subst hn; right; rcases s.dis n with x | x
      · rw [x] at e; cases e
      · exact x
    · simp only [upd, if_neg hn]; exact s.dis n
  · by_cases hn : n = b
    · subst hn; simp [upd]
    · simp only [upd, if_neg hn]; exact s.eq n

theorem seps_upd {H H' : List HA} {b : Nat} {o o' : Obj} (u : Upd H (.pt b o) (.pt b o') H') {h : Hp} (q : seps H h) : seps H' (upd h b o') := by
  obtain ⟨R, s, s'⟩ := u.sels
  obtain ⟨a, r, sp, e, qr⟩ := s.sound q
  exact s'.back ⟨upd a b o', r, upd_split sp e, by simp [HA.holds, upd], qr⟩

theorem Upd.mem {H H' : List HA} {x y : HA} (u : Upd H x y H') : x ∈ H := by
  induction u with
  | here => exact .head _
  | there _ ih => exact .tail _ ih

theorem Fits.set {F h : Hp} {w : World} {b : Nat} {o o' : Obj} (f : Fits F h w) (e : h b = some o') : Fits F (upd h b o) (setBlk w b o) := by
  have hw := f.own _ _ e
  refine ⟨fun n => ?_, fun n x hx => ?_, fun n x hx => ?_⟩
  · by_cases hn : n = b
    · subst hn; right; rcases f.dis n with y | y
      · rw [y] at e; cases e
      · exact y
    · simp only [upd, if_neg hn]; exact f.dis n
  · rw [setBlk_get hw]
    by_cases hn : n = b
    · simp only [upd, if_pos hn] at hx; rw [if_pos hn]; exact hx
    · simp only [upd, if_neg hn] at hx; rw [if_neg hn]; exact f.own n x hx
  · rw [setBlk_get hw]
    by_cases hn : n = b
    · subst hn; rcases f.dis n with y | y
      · rw [y] at e; cases e
      · rw [y] at hx; cases hx
    · rw [if_neg hn]; exact f.frm n x hx

theorem Fits.lt {F h : Hp} {w : World} (f : Fits F h w) {n : Nat} {o : Obj} (e : h n = some o) : n < w.heap.size := by
  rcases Nat.lt_or_ge n w.heap.size with h1 | h1
  · exact h1
  · have := f.own n o e; simp [Array.getElem?_eq_none h1] at this

theorem Fits.fresh {F h : Hp} {w : World} (f : Fits F h w) : h w.heap.size = none ∧ F w.heap.size = none := by
  constructor
  · cases e : h w.heap.size with
    | none => rfl
    | some o => have := f.own _ _ e; simp at this
  · cases e : F w.heap.size with
    | none => rfl
    | some o => have := f.frm _ _ e; simp at this

theorem Fits.new {F h : Hp} {w : World} (f : Fits F h w) (o : Obj) : Fits F (upd h w.heap.size o) (newBlk w o) := by
  have ⟨e1, e2⟩ := f.fresh
  refine ⟨fun n => ?_, fun n x hx => ?_, fun n x hx => ?_⟩
  · by_cases hn : n = w.heap.size
    · subst hn; exact .inr e2
    · simp only [upd, if_neg hn]; exact f.dis n
  · rw [newBlk_get]
    by_cases hn : n = w.heap.size
    · simp only [upd, if_pos hn] at hx; rw [if_pos hn]; exact hx
    · simp only [upd, if_neg hn] at hx; rw [if_neg hn]; exact f.own n x hx
  · rw [newBlk_get]
    by_cases hn : n = w.heap.size
    · subst hn; rw [e2] at hx; cases hx
    · rw [if_neg hn]; exact f.frm n x hx

theorem seps_new {H : List HA} {h : Hp} {b : Nat} (o : Obj) (q : seps H h) (e : h b = none) : seps (.pt b o :: H) (upd h b o) := by
  refine ⟨upd noHp b o, h, ⟨fun n => ?_, fun n => ?_⟩, by simp [HA.holds, upd], q⟩
  · by_cases hn : n = b
    · subst hn; exact .inr e
    · left; simp [upd, hn, noHp]
  · by_cases hn : n = b
    · subst hn; simp [upd]
    · simp [upd, hn, noHp]

theorem Keeps.setBlk (w : World) (b : Nat) (o : Obj) : Keeps w (setBlk w b o) := ⟨rfl, rfl, rfl, by simp [Eng.setBlk]⟩
theorem Keeps.newBlk (w : World) (o : Obj) : Keeps w (newBlk w o) := ⟨rfl, rfl, rfl, by simp [Eng.newBlk]⟩
theorem Keeps.drew (w : World) : Keeps w { w with drawn := w.drawn + 1 } := ⟨rfl, rfl, rfl, Nat.le_refl _⟩
theorem Fits.drew {F h : Hp} {w : World} (f : Fits F h w) : Fits F h { w with drawn := w.drawn + 1 } := ⟨f.dis, f.own, f.frm⟩

theorem add_mk (b o n : Nat) : (Addr.mk b o none).add n = ⟨b, o + n, none⟩ := by
  unfold Addr.add; by_cases h : n = 0
  · simp [h]
  · simp [h]

section
variable {P : Program} {w : World} {b : Nat} {L : List Value} {T : TypeId} {fz : Nat × Nat}

@[simp] theorem run_pure {α : Type} (a : α) (P : Program) (w : World) : (Sem.pure a).run P w = .ok a w := rfl
@[simp] theorem run_pure' {α : Type} (a : α) (P : Program) (w : World) : (pure a : Sem α).run P w = .ok a w := rfl
theorem run_bind {α β : Type} (x : Sem α) (f : α → Sem β) (P : Program) (w : World) :
    (x >>= f).run P w = match x.run P w with | .ok a w' => (f a).run P w' | .halt h w' => .halt h w' := by
  show (x.bind f).run P w = _
  induction x generalizing w with
  | pure a => rfl
  | load m a k ih => simp only [Sem.bind, Sem.run]; split <;> (try split) <;> simp_all
  | store m a v k ih =>
    cases v <;> simp only [Sem.bind, Sem.run] <;> (try rfl) <;> (split <;> (try split) <;> simp_all)
  | new o k ih => simp only [Sem.bind, Sem.run]; exact ih _ _
  | shape r k ih => simp only [Sem.bind, Sem.run]; exact ih _ _
  | freeze a n k ih => simp only [Sem.bind, Sem.run]; exact ih _
  | frozen a k ih => simp only [Sem.bind, Sem.run]; exact ih _ _
  | getObj r k ih => simp only [Sem.bind, Sem.run]; split <;> simp_all
  | setObj r o k ih => simp only [Sem.bind, Sem.run]; split <;> simp_all
  | choose q k ih => simp only [Sem.bind, Sem.run]; split <;> exact ih _ _
  | sys c k ih => simp only [Sem.bind, Sem.run]; exact ih _ _
  | program k ih => simp only [Sem.bind, Sem.run]; exact ih _ _
  | mark m k ih => simp only [Sem.bind, Sem.run]; exact ih _
  | halt h => rfl

theorem run_bind_ok {α β : Type} {x : Sem α} {f : α → Sem β} {P : Program} {w w' : World} {a : α} (h : x.run P w = .ok a w') :
    (x >>= f).run P w = (f a).run P w' := by rw [run_bind, h]

theorem cell_of (h : w.heap[b]? = some (.cells L.toArray T fz)) (o : Nat) : w.cell? ⟨b, o, none⟩ = L[o]? := by
  simp [World.cell?, h]

theorem run_load {o : Nat} {v : Value} (h : w.heap[b]? = some (.cells L.toArray T fz)) (hv : L[o]? = some v) : (load ⟨b, o, none⟩).run P w = .ok v w := by
  simp [load, Sem.run, cell_of h, hv]

theorem run_loadCellsFrom (h : w.heap[b]? = some (.cells L.toArray T fz)) (o : Nat) : ∀ (n i : Nat) (acc : Array Value), o + i + n ≤ L.length →
    (loadCellsFrom ⟨b, o, none⟩ i n acc).run P w = .ok (acc ++ ((L.drop (o + i)).take n).toArray) w := by
  intro n
  induction n with
  | zero => intro i acc _; simp [loadCellsFrom]
  | succ n ih =>
    intro i acc hl
    have hi : o + i < L.length := by omega
    have hv : L[o + i]? = some L[o + i] := List.getElem?_eq_getElem hi
    rw [loadCellsFrom, add_mk, run_bind_ok (run_load h hv), ih (i + 1) _ (by omega)]
    congr 1
    rw [show o + (i + 1) = (o + i) + 1 from by omega]
    rw [List.drop_eq_getElem_cons hi, List.take_succ_cons]
    simp only [Array.push_eq_append, Array.append_assoc, List.append_toArray, List.singleton_append]

theorem run_loadCells {o n : Nat} (h : w.heap[b]? = some (.cells L.toArray T fz)) (hl : o + n ≤ L.length) :
    (loadCells ⟨b, o, none⟩ n).run P w = .ok ((L.drop o).take n).toArray w := by
  rw [loadCells, run_loadCellsFrom h o n 0 #[] (by omega)]; simp

theorem setCell_eq (h : w.heap[b]? = some (.cells L.toArray T fz)) (o : Nat) (v : Value) :
    w.setCell ⟨b, o, none⟩ v = setBlk w b (.cells (L.set o v).toArray T fz) := by
  have hb : b < w.heap.size := by
    rcases Nat.lt_or_ge b w.heap.size with h1 | h1
    · exact h1
    · simp [Array.getElem?_eq_none h1] at h
  unfold World.setCell setBlk
  congr 1
  apply Array.ext_getElem?
  intro i
  simp only [Array.getElem?_modify, Array.getElem?_setIfInBounds]
  by_cases e : b = i
  · subst e; rw [h]; simp [hb]
  · simp [e]

def one : Value → Bool
  | .agg _ | .tuple _ => false
  | _ => true

def oneCells (vs : List Value) : Prop := ∀ v ∈ vs, one v = true

theorem store_eq {α : Type} {a : Addr} {v : Value} (hv : one v = true) (k : Sem α) (P : Program) (w : World) :
    (Sem.store Mode.plain a v k).run P w = match w.cell? a with
    | some _ => if w.frozen? a then .halt (.unsupported (.unsafePointer "a write to bytes that a string shares")) w else k.run P (w.setCell a v)
    | none => match w.farStore P a v (Mode.plain == .atomic) with
      | .ok (w, _) => k.run P w
      | .error h => .halt h w := by
  cases v <;> first | rfl | (simp [one] at hv)

theorem run_store {o : Nat} {v : Value} (h : w.heap[b]? = some (.cells L.toArray T fz)) (ho : o < L.length) (hf : (decide (fz.1 ≤ o) && decide (o < fz.2)) = false)
    (hv : one v = true) : (store ⟨b, o, none⟩ v).run P w = .ok () (setBlk w b (.cells (L.set o v).toArray T fz)) := by
  have hc : w.cell? ⟨b, o, none⟩ = some L[o] := by rw [cell_of h]; exact List.getElem?_eq_getElem ho
  have hz : w.frozen? ⟨b, o, none⟩ = false := by simp only [World.frozen?, h]; exact hf
  unfold store
  rw [store_eq hv, hc]
  simp only [hz, Bool.false_eq_true, if_false, Sem.run, setCell_eq h]

theorem run_storeCells (T : TypeId) (fz : Nat × Nat) (o : Nat) : ∀ (vs : List Value) (i : Nat) (L : List Value) (w : World),
    w.heap[b]? = some (.cells L.toArray T fz) → o + i + vs.length ≤ L.length → (∀ j, o + i ≤ j → j < o + i + vs.length → (decide (fz.1 ≤ j) && decide (j < fz.2)) = false) → oneCells vs →
    (storeCells ⟨b, o, none⟩ vs i).run P w = .ok () (if vs = [] then w else setBlk w b (.cells (L.take (o + i) ++ vs ++ L.drop (o + i + vs.length)).toArray T fz)) := by
  intro vs
  induction vs with
  | nil => intros; simp [storeCells]
  | cons v vs ih =>
    intro i L w h hl hf hv
    simp only [List.length_cons] at hl hf
    rw [storeCells, add_mk, run_bind_ok (run_store h (by omega) (hf _ (by omega) (by omega)) (hv v (.head _)))]
    have hb : b < w.heap.size := by
      rcases Nat.lt_or_ge b w.heap.size with h1 | h1
      · exact h1
      · simp [Array.getElem?_eq_none h1] at h
    have h' : (setBlk w b (.cells (L.set (o + i) v).toArray T fz)).heap[b]? = some (.cells (L.set (o + i) v).toArray T fz) := by rw [setBlk_get h]; simp
    rw [ih (i + 1) _ _ h' (by simp; omega) (fun j h1 h2 => hf j (by omega) (by omega)) (fun x hx => hv x (.tail _ hx))]
    have hset : ∀ x : Obj, setBlk (setBlk w b (.cells (L.set (o + i) v).toArray T fz)) b x = setBlk w b x := by intro x; simp [setBlk]
    simp only [reduceCtorEq, if_false]
    by_cases e : vs = []
    · subst e
      simp only [if_true, List.length_nil]
      congr 3
      have hi : o + i < L.length := by omega
      have key : L.set (o + i) v = L.take (o + i) ++ [v] ++ L.drop (o + i + (0 + 1)) := by
        rw [List.set_eq_take_append_cons_drop, if_pos hi]; simp
      rw [key]; rfl
    · rw [if_neg e, hset]
      congr 3
      rw [show o + (i + 1) = (o + i) + 1 from by omega]
      have hi : o + i < L.length := by omega
      have t1 : (L.set (o + i) v).take (o + i + 1) = L.take (o + i) ++ [v] := by
        rw [List.set_eq_take_append_cons_drop, if_pos hi]
        rw [List.take_append]
        simp [List.take_take, Nat.min_eq_left (Nat.le_of_lt hi), show o + i + 1 - (o + i) = 1 by omega]
      have t2 : (L.set (o + i) v).drop (o + i + 1 + vs.length) = L.drop (o + i + (vs.length + 1)) := by
        rw [List.drop_set_of_lt (by omega)]; congr 1; omega
      rw [t1, t2]; simp
end
end Eng
end Go.Proofs.Ytbhlolmglieehaa
