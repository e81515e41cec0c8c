/- A disk, plainly: sectors that are kept, and writes that perhaps are. -/
import Derived.Test.YtbhlolmglieehaaEngT
set_option linter.unusedSimpArgs false
set_option linter.unusedVariables false
namespace Go.Proofs.Ytbhlolmglieehaa

abbrev Bytes := List UInt8

structure DiskS where
  kept : List Bytes
  cache : List (Nat × Bytes)
  down : Bool
  fate : Int
  keeps : Nat
  steps : Int

namespace DiskS

def new (n : Int) : DiskS := ⟨List.replicate (max 1 (min n 4096)).toNat (List.replicate 64 0), [], false, -1, 0, 0⟩

/-- of the writes from the i-th on those are kept whose bit is set -/
def keepSome (keeps : Nat) : Nat → List (Nat × Bytes) → List Bytes → List Bytes
  | _, [], k => k
  | i, (a, s) :: r, k => keepSome keeps (i + 1) r (if keeps.testBit (i % 64) then k.set a s else k)

def keepAll : List (Nat × Bytes) → List Bytes → List Bytes
  | [], k => k
  | (a, s) :: r, k => keepAll r (k.set a s)

def crash (D : DiskS) (keeps : Nat) : DiskS := { D with kept := keepSome keeps 0 D.cache D.kept, cache := [], down := true, fate := -1 }

def wrap (n : Int) : Int := IntKind.i64.wrap n

def step (D : DiskS) : Bool × DiskS :=
  if 0 < D.fate then
    if D.fate - 1 = 0 then (false, { D with steps := wrap (D.steps + 1), fate := D.fate - 1 }.crash D.keeps)
    else (true, { D with steps := wrap (D.steps + 1), fate := D.fate - 1 })
  else (true, { D with steps := wrap (D.steps + 1) })

def write (D : DiskS) (at_ : Int) (s : Bytes) : Int × DiskS :=
  if D.down then (3, D) else if at_ < 0 ∨ D.kept.length ≤ at_ then (2, D) else
    let r := { D with cache := D.cache ++ [(at_.toNat, s)] }.step
    (if r.1 then 0 else 3, r.2)

def flush (D : DiskS) : Int × DiskS :=
  if D.down then (3, D) else
    let r := D.step
    if r.1 then (0, { r.2 with kept := keepAll r.2.cache r.2.kept, cache := [] }) else (3, r.2)

/-- what was written last at a place -/
def lastOf (a : Nat) : List (Nat × Bytes) → Option Bytes
  | [] => none
  | (b, s) :: r => match lastOf a r with
    | some x => some x
    | none => if b = a then some s else none

def read (D : DiskS) (at_ : Int) : Bytes × Int :=
  if D.down then (List.replicate 64 0, 3) else if at_ < 0 ∨ D.kept.length ≤ at_ then (List.replicate 64 0, 2) else
    ((lastOf at_.toNat D.cache).getD (D.kept.getD at_.toNat []), 0)

def plan (D : DiskS) (n : Int) (keeps : Nat) : DiskS := { D with fate := n, keeps := keeps }

/-- sectors have their size, and writes their places -/
structure Ok (D : DiskS) : Prop where
  kept : ∀ s ∈ D.kept, s.length = 64
  cache : ∀ e ∈ D.cache, e.1 < D.kept.length ∧ e.2.length = 64
  size : 1 ≤ D.kept.length ∧ D.kept.length ≤ 4096
  keeps : D.keeps < 2 ^ 64
  few : D.cache.length ≤ 1099511627776
  fate : -9223372036854775808 ≤ D.fate ∧ D.fate < 9223372036854775808

theorem keepSome_len (keeps : Nat) : ∀ (r : List (Nat × Bytes)) (i : Nat) (k : List Bytes), (keepSome keeps i r k).length = k.length := by
  intro r
  induction r with
  | nil => intro i k; rfl
  | cons e r ih => intro i k; obtain ⟨a, s⟩ := e; simp only [keepSome]; rw [ih]; split <;> simp

theorem keepAll_len : ∀ (r : List (Nat × Bytes)) (k : List Bytes), (keepAll r k).length = k.length := by
  intro r
  induction r with
  | nil => intro k; rfl
  | cons e r ih => intro k; obtain ⟨a, s⟩ := e; simp only [keepAll]; rw [ih]; simp

theorem set_all {k : List Bytes} (hk : ∀ s ∈ k, s.length = 64) {a : Nat} {s : Bytes} (hs : s.length = 64) : ∀ x ∈ k.set a s, x.length = 64 := by
  intro x hx
  rcases List.mem_or_eq_of_mem_set hx with h | h
  · exact hk x h
  · rw [h]; exact hs

theorem keepSome_all (keeps : Nat) : ∀ (r : List (Nat × Bytes)) (i : Nat) (k : List Bytes), (∀ e ∈ r, e.2.length = 64) → (∀ s ∈ k, s.length = 64) → ∀ s ∈ keepSome keeps i r k, s.length = 64 := by
  intro r
  induction r with
  | nil => intro i k _ hk; exact hk
  | cons e r ih =>
    intro i k hr hk
    obtain ⟨a, s⟩ := e
    simp only [keepSome]
    refine ih _ _ (fun e he => hr e (.tail _ he)) ?_
    split
    · exact set_all hk (hr _ (.head _))
    · exact hk

theorem keepAll_all : ∀ (r : List (Nat × Bytes)) (k : List Bytes), (∀ e ∈ r, e.2.length = 64) → (∀ s ∈ k, s.length = 64) → ∀ s ∈ keepAll r k, s.length = 64 := by
  intro r
  induction r with
  | nil => intro k _ hk; exact hk
  | cons e r ih =>
    intro k hr hk
    obtain ⟨a, s⟩ := e
    simp only [keepAll]
    exact ih _ (fun e he => hr e (.tail _ he)) (set_all hk (hr _ (.head _)))

theorem Ok.crash {D : DiskS} (h : D.Ok) (keeps : Nat) : (D.crash keeps).Ok :=
  ⟨keepSome_all _ _ _ _ (fun e he => (h.cache e he).2) h.kept, (fun e he => by cases he), (by simp only [DiskS.crash]; rw [keepSome_len]; exact h.size), h.keeps, by simp [DiskS.crash], by simp [DiskS.crash]⟩

theorem Ok.step {D : DiskS} (h : D.Ok) : D.step.2.Ok := by
  have hf := h.fate
  unfold DiskS.step
  split
  · split
    · exact Ok.crash (D := { D with steps := wrap (D.steps + 1), fate := D.fate - 1 }) ⟨h.kept, h.cache, h.size, h.keeps, h.few, by dsimp only; omega⟩ _
    · exact ⟨h.kept, h.cache, h.size, h.keeps, h.few, by dsimp only; omega⟩
  · exact ⟨h.kept, h.cache, h.size, h.keeps, h.few, h.fate⟩

theorem step_kept_len (D : DiskS) : D.step.2.kept.length = D.kept.length := by
  unfold DiskS.step
  split
  · split
    · simp only [DiskS.crash]; rw [keepSome_len]
    · rfl
  · rfl

theorem Ok.write {D : DiskS} (h : D.Ok) (hf : D.cache.length < 1099511627776) (a : Int) {s : Bytes} (hs : s.length = 64) : (D.write a s).2.Ok := by
  unfold DiskS.write
  split
  · exact h
  · split
    · exact h
    · rename_i _ hc
      refine Ok.step (D := { D with cache := D.cache ++ [(a.toNat, s)] }) ⟨h.kept, fun e he => ?_, h.size, h.keeps, by simp; omega, h.fate⟩
      rcases List.mem_append.1 he with h1 | h1
      · exact h.cache e h1
      · simp at h1; subst h1; exact ⟨by simp only; omega, hs⟩

theorem Ok.flush {D : DiskS} (h : D.Ok) : (D.flush).2.Ok := by
  unfold DiskS.flush
  split
  · exact h
  · have := h.step
    simp only
    split
    · exact ⟨keepAll_all _ _ (fun e he => (this.cache e he).2) this.kept, (fun e he => by cases he), (by simp only; rw [keepAll_len]; exact this.size), this.keeps, by simp, this.fate⟩
    · exact this

end DiskS

/-- a byte and bytes as cells -/
def bv (b : UInt8) : Value := .int .u8 b.toNat
def bvs (bs : Bytes) : List Value := bs.map bv
def wv (e : Nat × Bytes) : List Value := .int .i64 e.1 :: bvs e.2

theorem bvs_len (bs : Bytes) : (bvs bs).length = bs.length := by simp [bvs]
theorem bvs_one (bs : Bytes) : Eng.oneCells (bvs bs) := by
  intro v hv; obtain ⟨b, _, rfl⟩ := List.mem_map.1 hv; rfl
theorem wv_len {e : Nat × Bytes} (h : e.2.length = 64) : (wv e).length = 65 := by simp [wv, bvs_len, h]
theorem wv_one (e : Nat × Bytes) : Eng.oneCells (wv e) := by
  intro v hv; rcases List.mem_cons.1 hv with h | h
  · subst h; rfl
  · exact bvs_one _ v h

section flat
variable {α : Type} {f : α → List Value} {s : Nat}

theorem flat_len : ∀ (l : List α), (∀ a ∈ l, (f a).length = s) → (l.flatMap f).length = l.length * s := by
  intro l
  induction l with
  | nil => intro _; simp
  | cons a l ih =>
    intro h
    rw [List.flatMap_cons, List.length_append, ih (fun b hb => h b (.tail _ hb)), h a (.head _), List.length_cons, Nat.add_mul]; omega

theorem flat_get : ∀ (l : List α) (sp : List Value) (i : Nat) (a : α), (∀ a ∈ l, (f a).length = s) → l[i]? = some a → ((l.flatMap f ++ sp).drop (i * s)).take s = f a := by
  intro l
  induction l with
  | nil => intro sp i a _ h; simp at h
  | cons b l ih =>
    intro sp i a h hi
    have hb := h b (.head _)
    cases i with
    | zero => simp at hi; subst hi; rw [List.flatMap_cons, List.append_assoc]; simp [← hb]
    | succ i =>
      have := ih sp i a (fun c hc => h c (.tail _ hc)) (by simpa using hi)
      rw [List.flatMap_cons, List.append_assoc, Nat.add_mul, Nat.one_mul, Nat.add_comm, List.drop_append]
      have e1 : (f b).drop (s + i * s) = [] := List.drop_eq_nil_of_le (by omega)
      rw [e1, List.nil_append, hb, Nat.add_sub_cancel_left]; exact this

theorem flat_set : ∀ (l : List α) (i : Nat) (x : α), (∀ a ∈ l, (f a).length = s) → (f x).length = s → i < l.length →
    (l.flatMap f).take (i * s) ++ f x ++ (l.flatMap f).drop (i * s + s) = (l.set i x).flatMap f := by
  intro l
  induction l with
  | nil => intro i x _ _ h; simp at h
  | cons b l ih =>
    intro i x h hx hi
    have hb := h b (.head _)
    cases i with
    | zero => simp only [Nat.zero_mul, List.take_zero, List.nil_append, Nat.zero_add, List.set_cons_zero, List.flatMap_cons]; rw [← hb]; simp
    | succ i =>
      have := ih i x (fun c hc => h c (.tail _ hc)) hx (by simpa using hi)
      have e0 : (i + 1) * s = s + i * s := by rw [Nat.add_mul, Nat.one_mul, Nat.add_comm]
      rw [List.set_cons_succ, List.flatMap_cons, List.flatMap_cons, e0, List.take_append, List.drop_append, ← this]
      have e1 : (f b).take (s + i * s) = f b := List.take_of_length_le (by omega)
      have e2 : (f b).drop (s + i * s + s) = [] := List.drop_eq_nil_of_le (by omega)
      rw [e1, e2, hb, Nat.add_sub_cancel_left, show s + i * s + s - s = i * s + s from by omega]
      simp
end flat

namespace Eng
/-- a disk in memory -/
def DiskI (d : Nat) (D : DiskS) (G : List HA) : Prop := ∃ kb ca cc, D.Ok ∧
  G = [.pt d (.cells [.slice (some ⟨kb, 0, none⟩) D.kept.length D.kept.length, .slice ca D.cache.length cc, .bool D.down, .int .i64 D.fate, .int .u64 D.keeps, .int .i64 D.steps].toArray 53 (0, 0)),
    .pt kb (.cells (D.kept.flatMap bvs).toArray 57 (0, 0)), OwnS ca D.cache.length cc 65 76 (D.cache.flatMap wv)]
def DiskP (d : Nat) (D : DiskS) : HA := grp (DiskI d D)
end Eng
end Go.Proofs.Ytbhlolmglieehaa
