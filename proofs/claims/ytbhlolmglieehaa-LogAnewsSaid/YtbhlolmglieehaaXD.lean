/- A disk, plainly: sectors that are kept, and writes that perhaps are. -/
import Derived.Test.YtbhlolmglieehaaXB
import Derived.Test.YtbhlolmglieehaaXC
set_option linter.unusedSimpArgs false
set_option linter.unusedVariables false
namespace Go.Proofs.Ytbhlolmglieehaa

abbrev Bytes := List UInt8

structure DiskS where
  kept : List Bytes
  cache : List (Nat × Bytes)
  down : Bool
  fate : Int
  keeps : Nat
  steps : Int

namespace DiskS

def new (n : Int) : DiskS := ⟨List.replicate (max 1 (min n 4096)).toNat (List.replicate 64 0), [], false, -1, 0, 0⟩

/-- of the writes from the i-th on those are kept whose bit is set -/
def keepSome (keeps : Nat) : Nat → List (Nat × Bytes) → List Bytes → List Bytes
  | _, [], k => k
  | i, (a, s) :: r, k => keepSome keeps (i + 1) r (if keeps.testBit (i % 64) then k.set a s else k)

def keepAll : List (Nat × Bytes) → List Bytes → List Bytes
  | [], k => k
  | (a, s) :: r, k => keepAll r (k.set a s)

def crash (D : DiskS) (keeps : Nat) : DiskS := { D with kept := keepSome keeps 0 D.cache D.kept, cache := [], down := true, fate := -1 }

def wrap (n : Int) : Int := IntKind.i64.wrap n

def step (D : DiskS) : Bool × DiskS :=
  if 0 < D.fate then
    if D.fate - 1 = 0 then (false, { D with steps := wrap (D.steps + 1), fate := D.fate - 1 }.crash D.keeps)
    else (true, { D with steps := wrap (D.steps + 1), fate := D.fate - 1 })
  else (true, { D with steps := wrap (D.steps + 1) })

def write (D : DiskS) (at_ : Int) (s : Bytes) : Int × DiskS :=
  if D.down then (3, D) else if at_ < 0 ∨ D.kept.length ≤ at_ then (2, D) else
    let r := { D with cache := D.cache ++ [(at_.toNat, s)] }.step
    (if r.1 then 0 else 3, r.2)

def flush (D : DiskS) : Int × DiskS :=
  if D.down then (3, D) else
    let r := D.step
    if r.1 then (0, { r.2 with kept := keepAll r.2.cache r.2.kept, cache := [] }) else (3, r.2)

/-- what was written last at a place -/
def lastOf (a : Nat) : List (Nat × Bytes) → Option Bytes
  | [] => none
  | (b, s) :: r => match lastOf a r with
    | some x => some x
    | none => if b = a then some s else none

def read (D : DiskS) (at_ : Int) : Bytes × Int :=
  if D.down then (List.replicate 64 0, 3) else if at_ < 0 ∨ D.kept.length ≤ at_ then (List.replicate 64 0, 2) else
    ((lastOf at_.toNat D.cache).getD (D.kept.getD at_.toNat []), 0)

def plan (D : DiskS) (n : Int) (keeps : Nat) : DiskS := { D with fate := n, keeps := keeps }

/-- sectors have their size, and writes their places -/
structure Ok (D : DiskS) : Prop where
  kept : ∀ s ∈ D.kept, s.length = 64
  cache : ∀ e ∈ D.cache, e.1 < D.kept.length ∧ e.2.length = 64
  size : 1 ≤ D.kept.length ∧ D.kept.length ≤ 4096
  keeps : D.keeps < 2 ^ 64
  few : D.cache.length ≤ 1099511627776
  fate : -9223372036854775808 ≤ D.fate ∧ D.fate < 9223372036854775808

theorem keepSome_len (keeps : Nat) : ∀ (r : List (Nat × Bytes)) (i : Nat) (k : List Bytes), (keepSome keeps i r k).length = k.length := by
  intro r
  induction r with
  | nil => intro i k; rfl
  | cons e r ih => intro i k; obtain ⟨a, s⟩ := e; simp only [keepSome]; rw [ih]; split <;> simp

theorem keepAll_len : ∀ (r : List (Nat × Bytes)) (k : List Bytes), (keepAll r k).length = k.length := by
  intro r
  induction r with
  | nil => intro k; rfl
  | cons e r ih => intro k; obtain ⟨a, s⟩ := e; simp only [keepAll]; rw [ih]; simp

theorem set_all {k : List Bytes} (hk : ∀ s ∈ k, s.length = 64) {a : Nat} {s : Bytes} (hs : s.length = 64) : ∀ x ∈ k.set a s, x.length = 64 := by
  intro x hx
  rcases List.mem_or_eq_of_mem_set hx with h | h
  · exact hk x h
  · rw [h]; exact hs

theorem keepSome_all (keeps : Nat) : ∀ (r : List (Nat × Bytes)) (i : Nat) (k : List Bytes), (∀ e ∈ r, e.2.length = 64) → (∀ s ∈ k, s.length = 64) → ∀ s ∈ keepSome keeps i r k, s.length = 64 := by
  intro r
  induction r with
  | nil => intro i k _ hk; exact hk
  | cons e r ih =>
    intro i k hr hk
    obtain ⟨a, s⟩ := e
    simp only [keepSome]
    refine ih _ _ (fun e he => hr e (.tail _ he)) ?_
    split
    · exact set_all hk (hr _ (.head _))
    · exact hk

theorem keepAll_all : ∀ (r : List (Nat × Bytes)) (k : List Bytes), (∀ e ∈ r, e.2.length = 64) → (∀ s ∈ k, s.length = 64) → ∀ s ∈ keepAll r k, s.length = 64 := by
  intro r
  induction r with
  | nil => intro k _ hk; exact hk
  | cons e r ih =>
    intro k hr hk
    obtain ⟨a, s⟩ := e
    simp only [keepAll]
    exact ih _ (fun e he => hr e (.tail _ he)) (set_all hk (hr _ (.head _)))

theorem Ok.crash {D : DiskS} (h : D.Ok) (keeps : Nat) : (D.crash keeps).Ok :=
  ⟨keepSome_all _ _ _ _ (fun e he => (h.cache e he).2) h.kept, (fun e he => by cases he), (by simp only [DiskS.crash]; rw [keepSome_len]; exact h.size), h.keeps, by simp [DiskS.crash], by simp [DiskS.crash]⟩

theorem Ok.step {D : DiskS} (h : D.Ok) : D.step.2.Ok := by
  have hf := h.fate
  unfold DiskS.step
  split
  · split
    · exact Ok.crash (D := { D with steps := wrap (D.steps + 1), fate := D.fate - 1 }) ⟨h.kept, h.cache, h.size, h.keeps, h.few, by dsimp only; omega⟩ _
    · exact ⟨h.kept, h.cache, h.size, h.keeps, h.few, by dsimp only; omega⟩
  · exact ⟨h.kept, h.cache, h.size, h.keeps, h.few, h.fate⟩

theorem step_kept_len (D : DiskS) : D.step.2.kept.length = D.kept.length := by
  unfold DiskS.step
  split
  · split
    · simp only [DiskS.crash]; rw [keepSome_len]
    · rfl
  · rfl

theorem Ok.write {D : DiskS} (h : D.Ok) (hf : D.cache.length < 1099511627776) (a : Int) {s : Bytes} (hs : s.length = 64) : (D.write a s).2.Ok := by
  unfold DiskS.write
  split
  · exact h
  · split
    · exact h
    · rename_i _ hc
      refine Ok.step (D := { D with cache := D.cache ++ [(a.toNat, s)] }) ⟨h.kept, fun e he => ?_, h.size, h.keeps, by simp; omega, h.fate⟩
      rcases List.mem_append.1 he with h1 | h1
      · exact h.cache e h1
      · simp at h1; subst h1; exact ⟨by simp only; omega, hs⟩

theorem Ok.flush {D : DiskS} (h : D.Ok) : (D.flush).2.Ok := by
  unfold DiskS.flush
  split
  · exact h
  · have := h.step
    simp only
    split
    · exact ⟨keepAll_all _ _ (fun e he => (this.cache e he).2) this.kept, (fun e he => by cases he), (by simp only; rw [keepAll_len]; exact this.size), this.keeps, by simp, this.fate⟩
    · exact this

end DiskS

/-- a byte and bytes as cells -/
def bv (b : UInt8) : Value := .int .u8 b.toNat
def bvs (bs : Bytes) : List Value := bs.map bv
def wv (e : Nat × Bytes) : List Value := .int .i64 e.1 :: bvs e.2

theorem bvs_len (bs : Bytes) : (bvs bs).length = bs.length := by simp [bvs]
theorem bvs_one (bs : Bytes) : Eng.oneCells (bvs bs) := by
  intro v hv; obtain ⟨b, _, rfl⟩ := List.mem_map.1 hv; rfl
theorem wv_len {e : Nat × Bytes} (h : e.2.length = 64) : (wv e).length = 65 := by simp [wv, bvs_len, h]
theorem wv_one (e : Nat × Bytes) : Eng.oneCells (wv e) := by
  intro v hv; rcases List.mem_cons.1 hv with h | h
  · subst h; rfl
  · exact bvs_one _ v h

section flat
variable {α : Type} {f : α → List Value} {s : Nat}

theorem flat_len : ∀ (l : List α), (∀ a ∈ l, (f a).length = s) → (l.flatMap f).length = l.length * s := by
  intro l
  induction l with
  | nil => intro _; simp
  | cons a l ih =>
    intro h
    rw [List.flatMap_cons, List.length_append, ih (fun b hb => h b (.tail _ hb)), h a (.head _), List.length_cons, Nat.add_mul]; omega

theorem flat_get : ∀ (l : List α) (sp : List Value) (i : Nat) (a : α), (∀ a ∈ l, (f a).length = s) → l[i]? = some a → ((l.flatMap f ++ sp).drop (i * s)).take s = f a := by
  intro l
  induction l with
  | nil => intro sp i a _ h; simp at h
  | cons b l ih =>
    intro sp i a h hi
    have hb := h b (.head _)
    cases i with
    | zero => simp at hi; subst hi; rw [List.flatMap_cons, List.append_assoc]; simp [← hb]
    | succ i =>
      have := ih sp i a (fun c hc => h c (.tail _ hc)) (by simpa using hi)
      rw [List.flatMap_cons, List.append_assoc, Nat.add_mul, Nat.one_mul, Nat.add_comm, List.drop_append]
      have e1 : (f b).drop (s + i * s) = [] := List.drop_eq_nil_of_le (by omega)
      rw [e1, List.nil_append, hb, Nat.add_sub_cancel_left]; exact this

theorem flat_set : ∀ (l : List α) (i : Nat) (x : α), (∀ a ∈ l, (f a).length = s) → (f x).length = s → i < l.length →
    (l.flatMap f).take (i * s) ++ f x ++ (l.flatMap f).drop (i * s + s) = (l.set i x).flatMap f := by
  intro l
  induction l with
  | nil => intro i x _ _ h; simp at h
  | cons b l ih =>
    intro i x h hx hi
    have hb := h b (.head _)
    cases i with
    | zero => simp only [Nat.zero_mul, List.take_zero, List.nil_append, Nat.zero_add, List.set_cons_zero, List.flatMap_cons]; rw [← hb]; simp
    | succ i =>
      have := ih i x (fun c hc => h c (.tail _ hc)) hx (by simpa using hi)
      have e0 : (i + 1) * s = s + i * s := by rw [Nat.add_mul, Nat.one_mul, Nat.add_comm]
      rw [List.set_cons_succ, List.flatMap_cons, List.flatMap_cons, e0, List.take_append, List.drop_append, ← this]
      have e1 : (f b).take (s + i * s) = f b := List.take_of_length_le (by omega)
      have e2 : (f b).drop (s + i * s + s) = [] := List.drop_eq_nil_of_le (by omega)
      rw [e1, e2, hb, Nat.add_sub_cancel_left, show s + i * s + s - s = i * s + s from by omega]
      simp
end flat

namespace Eng
/-- a disk in memory -/
def DiskI (d : Nat) (D : DiskS) (G : List HA) : Prop := ∃ kb ca cc, D.Ok ∧
  G = [.pt d (.cells [.slice (some ⟨kb, 0, none⟩) D.kept.length D.kept.length, .slice ca D.cache.length cc, .bool D.down, .int .i64 D.fate, .int .u64 D.keeps, .int .i64 D.steps].toArray 53 (0, 0)),
    .pt kb (.cells (D.kept.flatMap bvs).toArray 57 (0, 0)), OwnS ca D.cache.length cc 65 76 (D.cache.flatMap wv)]
def DiskP (d : Nat) (D : DiskS) : HA := grp (DiskI d D)
end Eng
end Go.Proofs.Ytbhlolmglieehaa

/- The disk's functions: each is what the plain disk says. -/
set_option linter.unusedSimpArgs false
set_option linter.unusedVariables false
namespace Go.Proofs.Ytbhlolmglieehaa
namespace Eng
attribute [local irreducible] Ops Segs Run Spec

theorem disk_Len (d : Nat) (D : DiskS) (F : Hp) : Spec Try.prog 20 [.pointer (some ⟨d, 0, none⟩)].toArray F [DiskP d D] fun v H => v = .int .i64 D.kept.length ∧ H = [DiskP d D] := by
  refine Spec.enter (n := 8) Try.func20 ok_disk_Disk_Len rfl (by simp) ?_
  unfold ec_disk_Disk_Len
  simp only [argFr, Nat.reduceAdd]
  refine Run.open_ s0 fun G ⟨kb, ca, cc, hok, hG⟩ => ?_
  subst hG
  simp only [List.cons_append, List.nil_append]
  (repeat (first | (apply Ops.q; rfl; rfl) | (apply Ops.gyB; rfl; rfl) | (apply Ops.gnB; rfl; decide) | (apply Ops.add; rfl; rfl; (constructor <;> omega)) | (apply Ops.sub; rfl; rfl; (constructor <;> omega)) | (apply Ops.rem; rfl; rfl; omega; omega) | (apply Ops.quo; rfl; rfl; (constructor <;> omega); omega) | (apply Ops.ld; rfl; (first | exact m0 | exact m1 | exact m2 | exact m3 | exact m4 | exact m5 | exact m6); rfl) | (apply Ops.st0; rfl; rfl; rfl; rfl; (first | exact u0 | exact u1 | exact u2 | exact u3 | exact u4 | exact u5); focus (simp; done)) | refine Ops.nil ?_ | refine Segs.nil ?_ | (apply Segs.oneS; rfl) | refine Run.seq ?_ | refine Run.reg ?_ | refine Run.block ?_ | refine Run.blk ?_ | refine Run.skip ?_))
  exact Run.ret1 Try.func20 rfl rfl (fold_grp (.cons s0 (.cons s0 (.cons s0 .nil))) ⟨kb, ca, cc, hok, rfl⟩) ⟨rfl, rfl⟩

theorem disk_Steps (d : Nat) (D : DiskS) (F : Hp) : Spec Try.prog 16 [.pointer (some ⟨d, 0, none⟩)].toArray F [DiskP d D] fun v H => v = .int .i64 D.steps ∧ H = [DiskP d D] := by
  refine Spec.enter (n := 7) Try.func16 ok_disk_Disk_Steps rfl (by simp) ?_
  unfold ec_disk_Disk_Steps
  simp only [argFr, Nat.reduceAdd]
  refine Run.open_ s0 fun G ⟨kb, ca, cc, hok, hG⟩ => ?_
  subst hG
  simp only [List.cons_append, List.nil_append]
  (repeat (first | (apply Ops.q; rfl; rfl) | (apply Ops.gyB; rfl; rfl) | (apply Ops.gnB; rfl; decide) | (apply Ops.add; rfl; rfl; (constructor <;> omega)) | (apply Ops.sub; rfl; rfl; (constructor <;> omega)) | (apply Ops.rem; rfl; rfl; omega; omega) | (apply Ops.quo; rfl; rfl; (constructor <;> omega); omega) | (apply Ops.ld; rfl; (first | exact m0 | exact m1 | exact m2 | exact m3 | exact m4 | exact m5 | exact m6); rfl) | (apply Ops.st0; rfl; rfl; rfl; rfl; (first | exact u0 | exact u1 | exact u2 | exact u3 | exact u4 | exact u5); focus (simp; done)) | refine Ops.nil ?_ | refine Segs.nil ?_ | (apply Segs.oneS; rfl) | refine Run.seq ?_ | refine Run.reg ?_ | refine Run.block ?_ | refine Run.blk ?_ | refine Run.skip ?_))
  exact Run.ret1 Try.func16 rfl rfl (fold_grp (.cons s0 (.cons s0 (.cons s0 .nil))) ⟨kb, ca, cc, hok, rfl⟩) ⟨rfl, rfl⟩

theorem disk_Plan (d : Nat) (D : DiskS) (n : Int) (k : Nat) (hk : k < 2 ^ 64) (hn : -9223372036854775808 ≤ n ∧ n < 9223372036854775808) (F : Hp) : Spec Try.prog 17 [.pointer (some ⟨d, 0, none⟩), .int .i64 n, .int .u64 k].toArray F [DiskP d D] fun v H => v = .tuple [].toArray ∧ H = [DiskP d (D.plan n k)] := by
  refine Spec.enter (n := 14) Try.func17 ok_disk_Disk_Plan rfl (by simp) ?_
  unfold ec_disk_Disk_Plan
  simp only [argFr, Nat.reduceAdd]
  refine Run.open_ s0 fun G ⟨kb, ca, cc, hok, hG⟩ => ?_
  subst hG
  simp only [List.cons_append, List.nil_append]
  (repeat (first | (apply Ops.q; rfl; rfl) | (apply Ops.gyB; rfl; rfl) | (apply Ops.gnB; rfl; decide) | (apply Ops.add; rfl; rfl; (constructor <;> omega)) | (apply Ops.sub; rfl; rfl; (constructor <;> omega)) | (apply Ops.rem; rfl; rfl; omega; omega) | (apply Ops.quo; rfl; rfl; (constructor <;> omega); omega) | (apply Ops.ld; rfl; (first | exact m0 | exact m1 | exact m2 | exact m3 | exact m4 | exact m5 | exact m6); rfl) | (apply Ops.st0; rfl; rfl; rfl; rfl; (first | exact u0 | exact u1 | exact u2 | exact u3 | exact u4 | exact u5); focus (simp; done)) | refine Ops.nil ?_ | refine Segs.nil ?_ | (apply Segs.oneS; rfl) | refine Run.seq ?_ | refine Run.reg ?_ | refine Run.block ?_ | refine Run.blk ?_ | refine Run.skip ?_))
  refine Run.done0 Try.func17 rfl (fold_grp (I := DiskI d (D.plan n k)) (.cons s0 (.cons s0 (.cons s0 .nil))) ⟨kb, ca, cc, ⟨hok.kept, hok.cache, hok.size, hk, hok.few, hn⟩, rfl⟩) ⟨rfl, rfl⟩

theorem disk_On (d : Nat) (D : DiskS) (F : Hp) : Spec Try.prog 19 [.pointer (some ⟨d, 0, none⟩)].toArray F [DiskP d D] fun v H => v = .tuple [].toArray ∧ H = [DiskP d { D with down := false }] := by
  refine Spec.enter (n := 5) Try.func19 ok_disk_Disk_On rfl (by simp) ?_
  unfold ec_disk_Disk_On
  simp only [argFr, Nat.reduceAdd]
  refine Run.open_ s0 fun G ⟨kb, ca, cc, hok, hG⟩ => ?_
  subst hG
  simp only [List.cons_append, List.nil_append]
  (repeat (first | (apply Ops.q; rfl; rfl) | (apply Ops.gyB; rfl; rfl) | (apply Ops.gnB; rfl; decide) | (apply Ops.add; rfl; rfl; (constructor <;> omega)) | (apply Ops.sub; rfl; rfl; (constructor <;> omega)) | (apply Ops.rem; rfl; rfl; omega; omega) | (apply Ops.quo; rfl; rfl; (constructor <;> omega); omega) | (apply Ops.ld; rfl; (first | exact m0 | exact m1 | exact m2 | exact m3 | exact m4 | exact m5 | exact m6); rfl) | (apply Ops.st0; rfl; rfl; rfl; rfl; (first | exact u0 | exact u1 | exact u2 | exact u3 | exact u4 | exact u5); focus (simp; done)) | refine Ops.nil ?_ | refine Segs.nil ?_ | (apply Segs.oneS; rfl) | refine Run.seq ?_ | refine Run.reg ?_ | refine Run.block ?_ | refine Run.blk ?_ | refine Run.skip ?_))
  refine Run.done0 Try.func19 rfl (fold_grp (I := DiskI d { D with down := false }) (.cons s0 (.cons s0 (.cons s0 .nil))) ⟨kb, ca, cc, ⟨hok.kept, hok.cache, hok.size, hok.keeps, hok.few, hok.fate⟩, rfl⟩) ⟨rfl, rfl⟩

end Eng
end Go.Proofs.Ytbhlolmglieehaa

/- The disk: the power goes. -/
set_option linter.unusedSimpArgs false
set_option linter.unusedVariables false
namespace Go.Proofs.Ytbhlolmglieehaa
namespace Eng
attribute [local irreducible] Ops Segs Run Spec

theorem bit_eq (k j : Nat) : ((k >>> j &&& 1 : Nat) : Int) = 1 ↔ k.testBit j = true := by
  rw [Nat.testBit, Nat.and_comm, bne_iff_ne]
  have := Nat.and_one_is_mod (k >>> j)
  rw [Nat.and_comm 1, this]
  omega

set_option maxHeartbeats 1000000 in
theorem crash_any (d : Nat) (D : DiskS) (k : Nat) (hk : k < 2 ^ 64) (F : Hp) : Spec Try.prog 18 [.pointer (some ⟨d, 0, none⟩), .int .u64 k].toArray F [DiskP d D] fun v H => v = .tuple [].toArray ∧ H = [DiskP d (D.crash k)] := by
  refine Spec.enter (n := 41) Try.func18 ok_disk_Disk_Crash rfl (by simp) ?_
  unfold ec_disk_Disk_Crash
  simp only [argFr, Nat.reduceAdd]
  refine Run.open_ s0 fun G ⟨kb, ca, cc, hok, hG⟩ => ?_
  subst hG
  simp only [List.cons_append, List.nil_append]
  have hfew := hok.few
  (repeat (first | (apply Ops.q; rfl; rfl) | (apply Ops.gyB; rfl; rfl) | (apply Ops.gnB; rfl; decide) | (apply Ops.add; rfl; rfl; (constructor <;> omega)) | (apply Ops.sub; rfl; rfl; (constructor <;> omega)) | (apply Ops.rem; rfl; rfl; omega; omega) | (apply Ops.quo; rfl; rfl; (constructor <;> omega); omega) | (apply Ops.ld; rfl; (first | exact m0 | exact m1 | exact m2 | exact m3 | exact m4 | exact m5 | exact m6); rfl) | (apply Ops.st0; rfl; rfl; rfl; rfl; (first | exact u0 | exact u1 | exact u2 | exact u3 | exact u4 | exact u5); focus (simp; done)) | refine Ops.nil ?_ | refine Segs.nil ?_ | (apply Segs.oneS; rfl) | refine Run.seq ?_ | refine Run.reg ?_ | refine Run.block ?_ | refine Run.blk ?_ | refine Run.skip ?_))
  -- the rounds
  refine Run.loopI (ι := Nat × List Bytes) (fun x => D.cache.length - x.1) (fun x => x.1 ≤ D.cache.length ∧ x.2.length = D.kept.length ∧ (∀ s ∈ x.2, s.length = 64) ∧ DiskS.keepSome k x.1 (D.cache.drop x.1) x.2 = DiskS.keepSome k 0 D.cache D.kept)
    (fun x => [(11, .int .i64 x.1), (10, .int .i64 D.cache.length), (9, .slice ca D.cache.length cc), (0, .pointer (some ⟨d, 0, none⟩)), (1, .int .u64 k)])
    (fun x => [.pt d (.cells [.slice (some ⟨kb, 0, none⟩) D.kept.length D.kept.length, .slice ca D.cache.length cc, .bool D.down, .int .i64 D.fate, .int .u64 D.keeps, .int .i64 D.steps].toArray 53 (0, 0)),
      .pt kb (.cells (x.2.flatMap bvs).toArray 57 (0, 0)), OwnS ca D.cache.length cc 65 76 (D.cache.flatMap wv)])
    (0, D.kept) ⟨Nat.zero_le _, rfl, hok.kept, rfl⟩ (.cons rfl (.cons rfl (.cons rfl (.cons rfl (.cons rfl .nil))))) (fun _ h => h) ?_
  rintro ⟨i, kept⟩ ⟨hi, hlen, h64, hks⟩ ih
  dsimp only at hi hlen h64 hks ih ⊢
  unfold ec_disk_Disk_Crash_L0
  (repeat (first | (apply Ops.q; rfl; rfl) | (apply Ops.gyB; rfl; rfl) | (apply Ops.gnB; rfl; decide) | (apply Ops.add; rfl; rfl; (constructor <;> omega)) | (apply Ops.sub; rfl; rfl; (constructor <;> omega)) | (apply Ops.rem; rfl; rfl; omega; omega) | (apply Ops.quo; rfl; rfl; (constructor <;> omega); omega) | (apply Ops.ld; rfl; (first | exact m0 | exact m1 | exact m2 | exact m3 | exact m4 | exact m5 | exact m6); rfl) | (apply Ops.st0; rfl; rfl; rfl; rfl; (first | exact u0 | exact u1 | exact u2 | exact u3 | exact u4 | exact u5); focus (simp; done)) | refine Ops.nil ?_ | refine Segs.nil ?_ | (apply Segs.oneS; rfl) | refine Run.seq ?_ | refine Run.reg ?_ | refine Run.block ?_ | refine Run.blk ?_ | refine Run.skip ?_))
  refine Run.condD rfl (fun hlt => ?_) (fun hge => ?_)
  · have hlt' : i < D.cache.length := by omega
    refine Run.open_ s2 fun G ⟨hxs, hG⟩ => ?_
    rcases hG with ⟨_, hn, _, _⟩ | ⟨cb, spare, hca, hnc, hcap, hG⟩
    · omega
    subst hca; subst hG
    simp only [List.cons_append, List.nil_append]
    have hel : D.cache[i]? = some D.cache[i] := List.getElem?_eq_getElem hlt'
    have hwl : ∀ e ∈ D.cache, (wv e).length = 65 := fun e he => wv_len (hok.cache e he).2
    have hget := flat_get D.cache spare i _ hwl hel
    obtain ⟨hat, hs64⟩ := hok.cache _ (List.getElem_mem hlt')
    have hdrop : D.cache.drop i = D.cache[i] :: D.cache.drop (i + 1) := List.drop_eq_getElem_cons hlt'
    generalize D.cache[i] = e at *
    obtain ⟨at_, s⟩ := e
    dsimp only at hat hs64
    rw [hdrop] at hks
    simp only [DiskS.keepSome] at hks
    (repeat (first | (apply Ops.q; rfl; rfl) | (apply Ops.gyB; rfl; rfl) | (apply Ops.gnB; rfl; decide) | (apply Ops.add; rfl; rfl; (constructor <;> omega)) | (apply Ops.sub; rfl; rfl; (constructor <;> omega)) | (apply Ops.rem; rfl; rfl; omega; omega) | (apply Ops.quo; rfl; rfl; (constructor <;> omega); omega) | (apply Ops.ld; rfl; (first | exact m0 | exact m1 | exact m2 | exact m3 | exact m4 | exact m5 | exact m6); rfl) | (apply Ops.st0; rfl; rfl; rfl; rfl; (first | exact u0 | exact u1 | exact u2 | exact u3 | exact u4 | exact u5); focus (simp; done)) | refine Ops.nil ?_ | refine Segs.nil ?_ | (apply Segs.oneS; rfl) | refine Run.seq ?_ | refine Run.reg ?_ | refine Run.block ?_ | refine Run.blk ?_ | refine Run.skip ?_))
    refine Ops.ixS rfl rfl ⟨by omega, by omega⟩ ?_
    refine Ops.ldn rfl m0 (by rw [List.length_append, hxs] at *; omega) ?_
    simp only [Nat.zero_add, Int.toNat_natCast, hget]
    refine Ops.alloc fun b5 => ?_
    (repeat (first | (apply Ops.q; rfl; rfl) | (apply Ops.gyB; rfl; rfl) | (apply Ops.gnB; rfl; decide) | (apply Ops.add; rfl; rfl; (constructor <;> omega)) | (apply Ops.sub; rfl; rfl; (constructor <;> omega)) | (apply Ops.rem; rfl; rfl; omega; omega) | (apply Ops.quo; rfl; rfl; (constructor <;> omega); omega) | (apply Ops.ld; rfl; (first | exact m0 | exact m1 | exact m2 | exact m3 | exact m4 | exact m5 | exact m6); rfl) | (apply Ops.st0; rfl; rfl; rfl; rfl; (first | exact u0 | exact u1 | exact u2 | exact u3 | exact u4 | exact u5); focus (simp; done)) | refine Ops.nil ?_ | refine Segs.nil ?_ | (apply Segs.oneS; rfl) | refine Run.seq ?_ | refine Run.reg ?_ | refine Run.block ?_ | refine Run.blk ?_ | refine Run.skip ?_))
    refine Ops.stn0 (vs := wv (at_, s)) rfl rfl rfl (wv_len hs64) (wv_one _) u0 (by simp [zl65_4]) (by simp [wv]) ?_
    have hfull : List.take 0 zl65_4 ++ wv (at_, s) ++ List.drop (0 + 65) zl65_4 = wv (at_, s) := by simp [zl65_4]
    simp only [hfull]
    (repeat (first | (apply Ops.q; rfl; rfl) | (apply Ops.gyB; rfl; rfl) | (apply Ops.gnB; rfl; decide) | (apply Ops.add; rfl; rfl; (constructor <;> omega)) | (apply Ops.sub; rfl; rfl; (constructor <;> omega)) | (apply Ops.rem; rfl; rfl; omega; omega) | (apply Ops.quo; rfl; rfl; (constructor <;> omega); omega) | (apply Ops.ld; rfl; (first | exact m0 | exact m1 | exact m2 | exact m3 | exact m4 | exact m5 | exact m6); rfl) | (apply Ops.st0; rfl; rfl; rfl; rfl; (first | exact u0 | exact u1 | exact u2 | exact u3 | exact u4 | exact u5); focus (simp; done)) | refine Ops.nil ?_ | refine Segs.nil ?_ | (apply Segs.oneS; rfl) | refine Run.seq ?_ | refine Run.reg ?_ | refine Run.block ?_ | refine Run.blk ?_ | refine Run.skip ?_))
    refine Ops.shr (j := i % 64) rfl rfl (by omega) (by simp [IntKind.bits]; omega) ?_
    refine Ops.and (b := 1) rfl rfl rfl rfl rfl (by simp only [IntKind.bits]; exact Nat.lt_of_le_of_lt (Nat.shiftRight_le _ _) hk) (by simp [IntKind.bits]) ?_
    (repeat (first | (apply Ops.q; rfl; rfl) | (apply Ops.gyB; rfl; rfl) | (apply Ops.gnB; rfl; decide) | (apply Ops.add; rfl; rfl; (constructor <;> omega)) | (apply Ops.sub; rfl; rfl; (constructor <;> omega)) | (apply Ops.rem; rfl; rfl; omega; omega) | (apply Ops.quo; rfl; rfl; (constructor <;> omega); omega) | (apply Ops.ld; rfl; (first | exact m0 | exact m1 | exact m2 | exact m3 | exact m4 | exact m5 | exact m6); rfl) | (apply Ops.st0; rfl; rfl; rfl; rfl; (first | exact u0 | exact u1 | exact u2 | exact u3 | exact u4 | exact u5); focus (simp; done)) | refine Ops.nil ?_ | refine Segs.nil ?_ | (apply Segs.oneS; rfl) | refine Run.seq ?_ | refine Run.reg ?_ | refine Run.block ?_ | refine Run.blk ?_ | refine Run.skip ?_))
    refine Run.condD rfl (fun hbit => ?_) (fun hbit => ?_)
    all_goals
      rw [bit_eq] at hbit
    · rw [if_pos hbit] at hks
      refine Run.reg (Segs.lend [_, _] (.cons s0 (.cons s1 .nil)) fun F1 x1 k1 => ?_)
      (repeat (first | (apply Ops.q; rfl; rfl) | (apply Ops.gyB; rfl; rfl) | (apply Ops.gnB; rfl; decide) | (apply Ops.add; rfl; rfl; (constructor <;> omega)) | (apply Ops.sub; rfl; rfl; (constructor <;> omega)) | (apply Ops.rem; rfl; rfl; omega; omega) | (apply Ops.quo; rfl; rfl; (constructor <;> omega); omega) | (apply Ops.ld; rfl; (first | exact m0 | exact m1 | exact m2 | exact m3 | exact m4 | exact m5 | exact m6); rfl) | (apply Ops.st0; rfl; rfl; rfl; rfl; (first | exact u0 | exact u1 | exact u2 | exact u3 | exact u4 | exact u5); focus (simp; done)) | refine Ops.nil ?_ | refine Segs.nil ?_ | (apply Segs.oneS; rfl) | refine Run.seq ?_ | refine Run.reg ?_ | refine Run.block ?_ | refine Run.blk ?_ | refine Run.skip ?_))
      refine Ops.ldF rfl (k1 _ _ m1) rfl ?_
      refine Ops.ldF rfl (k1 _ _ m0) rfl ?_
      refine Ops.ldnF rfl (k1 _ _ m0) (by simp [wv, bvs_len, hs64]) ?_
      simp only [List.cons_append, List.nil_append, wv, List.drop_succ_cons, List.drop_zero, Nat.zero_add, List.take_of_length_le (show (bvs s).length ≤ 64 by rw [bvs_len, hs64]; exact Nat.le_refl _)]
      (repeat (first | (apply Ops.q; rfl; rfl) | (apply Ops.gyB; rfl; rfl) | (apply Ops.gnB; rfl; decide) | (apply Ops.add; rfl; rfl; (constructor <;> omega)) | (apply Ops.sub; rfl; rfl; (constructor <;> omega)) | (apply Ops.rem; rfl; rfl; omega; omega) | (apply Ops.quo; rfl; rfl; (constructor <;> omega); omega) | (apply Ops.ld; rfl; (first | exact m0 | exact m1 | exact m2 | exact m3 | exact m4 | exact m5 | exact m6); rfl) | (apply Ops.st0; rfl; rfl; rfl; rfl; (first | exact u0 | exact u1 | exact u2 | exact u3 | exact u4 | exact u5); focus (simp; done)) | refine Ops.nil ?_ | refine Segs.nil ?_ | (apply Segs.oneS; rfl) | refine Run.seq ?_ | refine Run.reg ?_ | refine Run.block ?_ | refine Run.blk ?_ | refine Run.skip ?_))
      refine Ops.ixS rfl rfl ⟨by omega, by omega⟩ ?_
      have hkl : (kept.flatMap bvs).length = kept.length * 64 := flat_len kept (fun s hs => by rw [bvs_len, h64 s hs])
      have hat64 : at_ * 64 + 64 ≤ kept.length * 64 := by have := Nat.mul_le_mul_right 64 (show at_ + 1 ≤ kept.length by omega); omega
      refine Ops.stn0 (vs := bvs s) rfl rfl rfl (by rw [bvs_len, hs64]) (bvs_one s) u3 (by simp only [Int.toNat_natCast]; omega) (by intro h; have := congrArg List.length h; rw [bvs_len, hs64] at this; cases this) ?_
      simp only [Nat.zero_add, Int.toNat_natCast]
      rw [flat_set kept at_ s (fun s hs => by rw [bvs_len, h64 s hs]) (by rw [bvs_len, hs64]) (by omega)]
      (repeat (first | (apply Ops.q; rfl; rfl) | (apply Ops.gyB; rfl; rfl) | (apply Ops.gnB; rfl; decide) | (apply Ops.add; rfl; rfl; (constructor <;> omega)) | (apply Ops.sub; rfl; rfl; (constructor <;> omega)) | (apply Ops.rem; rfl; rfl; omega; omega) | (apply Ops.quo; rfl; rfl; (constructor <;> omega); omega) | (apply Ops.ld; rfl; (first | exact m0 | exact m1 | exact m2 | exact m3 | exact m4 | exact m5 | exact m6); rfl) | (apply Ops.st0; rfl; rfl; rfl; rfl; (first | exact u0 | exact u1 | exact u2 | exact u3 | exact u4 | exact u5); focus (simp; done)) | refine Ops.nil ?_ | refine Segs.nil ?_ | (apply Segs.oneS; rfl) | refine Run.seq ?_ | refine Run.reg ?_ | refine Run.block ?_ | refine Run.blk ?_ | refine Run.skip ?_))
      refine Run.lp (Run.again (ih (i + 1, kept.set at_ s) (by dsimp only; omega) ⟨by dsimp only; omega, by simp [hlen], DiskS.set_all h64 hs64, hks⟩) ?_ ?_)
      · exact .cons rfl (.cons rfl (.cons rfl (.cons rfl (.cons rfl .nil))))
      · exact fun h q => take_sub (.cons s2 (.cons s2 (.cons s0 .nil))) h (fold_grp (I := OwnI _ _ _ _ _ _) (.cons s2 .nil) ⟨hxs, .inr ⟨cb, spare, rfl, hnc, hcap, rfl⟩⟩ h q)
    · rw [if_neg hbit] at hks
      (repeat (first | (apply Ops.q; rfl; rfl) | (apply Ops.gyB; rfl; rfl) | (apply Ops.gnB; rfl; decide) | (apply Ops.add; rfl; rfl; (constructor <;> omega)) | (apply Ops.sub; rfl; rfl; (constructor <;> omega)) | (apply Ops.rem; rfl; rfl; omega; omega) | (apply Ops.quo; rfl; rfl; (constructor <;> omega); omega) | (apply Ops.ld; rfl; (first | exact m0 | exact m1 | exact m2 | exact m3 | exact m4 | exact m5 | exact m6); rfl) | (apply Ops.st0; rfl; rfl; rfl; rfl; (first | exact u0 | exact u1 | exact u2 | exact u3 | exact u4 | exact u5); focus (simp; done)) | refine Ops.nil ?_ | refine Segs.nil ?_ | (apply Segs.oneS; rfl) | refine Run.seq ?_ | refine Run.reg ?_ | refine Run.block ?_ | refine Run.blk ?_ | refine Run.skip ?_))
      refine Run.lp (Run.again (ih (i + 1, kept) (by dsimp only; omega) ⟨by dsimp only; omega, hlen, h64, hks⟩) ?_ ?_)
      · exact .cons rfl (.cons rfl (.cons rfl (.cons rfl (.cons rfl .nil))))
      · exact fun h q => take_sub (.cons s2 (.cons s2 (.cons s0 .nil))) h (fold_grp (I := OwnI _ _ _ _ _ _) (.cons s1 .nil) ⟨hxs, .inr ⟨cb, spare, rfl, hnc, hcap, rfl⟩⟩ h q)
  · have : i = D.cache.length := by omega
    subst this
    rw [List.drop_length] at hks
    simp only [DiskS.keepSome] at hks
    subst hks
    (repeat (first | (apply Ops.q; rfl; rfl) | (apply Ops.gyB; rfl; rfl) | (apply Ops.gnB; rfl; decide) | (apply Ops.add; rfl; rfl; (constructor <;> omega)) | (apply Ops.sub; rfl; rfl; (constructor <;> omega)) | (apply Ops.rem; rfl; rfl; omega; omega) | (apply Ops.quo; rfl; rfl; (constructor <;> omega); omega) | (apply Ops.ld; rfl; (first | exact m0 | exact m1 | exact m2 | exact m3 | exact m4 | exact m5 | exact m6); rfl) | (apply Ops.st0; rfl; rfl; rfl; rfl; (first | exact u0 | exact u1 | exact u2 | exact u3 | exact u4 | exact u5); focus (simp; done)) | refine Ops.nil ?_ | refine Segs.nil ?_ | (apply Segs.oneS; rfl) | refine Run.seq ?_ | refine Run.reg ?_ | refine Run.block ?_ | refine Run.blk ?_ | refine Run.skip ?_))
    refine Run.exit rfl ?_
    (repeat (first | (apply Ops.q; rfl; rfl) | (apply Ops.gyB; rfl; rfl) | (apply Ops.gnB; rfl; decide) | (apply Ops.add; rfl; rfl; (constructor <;> omega)) | (apply Ops.sub; rfl; rfl; (constructor <;> omega)) | (apply Ops.rem; rfl; rfl; omega; omega) | (apply Ops.quo; rfl; rfl; (constructor <;> omega); omega) | (apply Ops.ld; rfl; (first | exact m0 | exact m1 | exact m2 | exact m3 | exact m4 | exact m5 | exact m6); rfl) | (apply Ops.st0; rfl; rfl; rfl; rfl; (first | exact u0 | exact u1 | exact u2 | exact u3 | exact u4 | exact u5); focus (simp; done)) | refine Ops.nil ?_ | refine Segs.nil ?_ | (apply Segs.oneS; rfl) | refine Run.seq ?_ | refine Run.reg ?_ | refine Run.block ?_ | refine Run.blk ?_ | refine Run.skip ?_))
    refine Run.done0 Try.func18 rfl (fun h q => take_sub (.cons s0 .nil) h (fold_grp (I := DiskI d (D.crash k)) (.cons s1 (.cons s1 (.cons s0 .nil))) ⟨kb, none, 0, hok.crash k, ?_⟩ h (own_new (s := 65) (T := 76) h q))) ⟨rfl, rfl⟩
    simp only [DiskS.crash, DiskS.keepSome_len]; rfl
end Eng
end Go.Proofs.Ytbhlolmglieehaa

/- The disk: steps, writes, flushes. -/
set_option linter.unusedSimpArgs false
set_option linter.unusedVariables false
namespace Go.Proofs.Ytbhlolmglieehaa
namespace Eng
attribute [local irreducible] Ops Segs Run Spec

theorem disk_step (d : Nat) (D : DiskS) (F : Hp) : Spec Try.prog 40 [.pointer (some ⟨d, 0, none⟩)].toArray F [DiskP d D] fun v H => v = .bool D.step.1 ∧ H = [DiskP d D.step.2] := by
  refine Spec.enter (n := 33) Try.func40 ok_disk_Disk_step rfl (by simp) ?_
  unfold ec_disk_Disk_step
  simp only [argFr, Nat.reduceAdd]
  refine Run.open_ s0 fun G ⟨kb, ca, cc, hok, hG⟩ => ?_
  subst hG
  simp only [List.cons_append, List.nil_append]
  (repeat (first | (apply Ops.q; rfl; rfl) | (apply Ops.gyB; rfl; rfl) | (apply Ops.gnB; rfl; decide) | (apply Ops.add; rfl; rfl; (constructor <;> omega)) | (apply Ops.sub; rfl; rfl; (constructor <;> omega)) | (apply Ops.rem; rfl; rfl; omega; omega) | (apply Ops.quo; rfl; rfl; (constructor <;> omega); omega) | (apply Ops.ld; rfl; (first | exact m0 | exact m1 | exact m2 | exact m3 | exact m4 | exact m5 | exact m6); rfl) | (apply Ops.st0; rfl; rfl; rfl; rfl; (first | exact u0 | exact u1 | exact u2 | exact u3 | exact u4 | exact u5); focus (simp; done)) | refine Ops.nil ?_ | refine Segs.nil ?_ | (apply Segs.oneS; rfl) | refine Run.seq ?_ | refine Run.reg ?_ | refine Run.block ?_ | refine Run.blk ?_ | refine Run.skip ?_))
  refine Ops.p rfl ?_
  (repeat (first | (apply Ops.q; rfl; rfl) | (apply Ops.gyB; rfl; rfl) | (apply Ops.gnB; rfl; decide) | (apply Ops.add; rfl; rfl; (constructor <;> omega)) | (apply Ops.sub; rfl; rfl; (constructor <;> omega)) | (apply Ops.rem; rfl; rfl; omega; omega) | (apply Ops.quo; rfl; rfl; (constructor <;> omega); omega) | (apply Ops.ld; rfl; (first | exact m0 | exact m1 | exact m2 | exact m3 | exact m4 | exact m5 | exact m6); rfl) | (apply Ops.st0; rfl; rfl; rfl; rfl; (first | exact u0 | exact u1 | exact u2 | exact u3 | exact u4 | exact u5); focus (simp; done)) | refine Ops.nil ?_ | refine Segs.nil ?_ | (apply Segs.oneS; rfl) | refine Run.seq ?_ | refine Run.reg ?_ | refine Run.block ?_ | refine Run.blk ?_ | refine Run.skip ?_))
  refine Run.condD rfl (fun hf => ?_) (fun hf => ?_)
  · have hfr := hok.fate
    (repeat (first | (apply Ops.q; rfl; rfl) | (apply Ops.gyB; rfl; rfl) | (apply Ops.gnB; rfl; decide) | (apply Ops.add; rfl; rfl; (constructor <;> omega)) | (apply Ops.sub; rfl; rfl; (constructor <;> omega)) | (apply Ops.rem; rfl; rfl; omega; omega) | (apply Ops.quo; rfl; rfl; (constructor <;> omega); omega) | (apply Ops.ld; rfl; (first | exact m0 | exact m1 | exact m2 | exact m3 | exact m4 | exact m5 | exact m6); rfl) | (apply Ops.st0; rfl; rfl; rfl; rfl; (first | exact u0 | exact u1 | exact u2 | exact u3 | exact u4 | exact u5); focus (simp; done)) | refine Ops.nil ?_ | refine Segs.nil ?_ | (apply Segs.oneS; rfl) | refine Run.seq ?_ | refine Run.reg ?_ | refine Run.block ?_ | refine Run.blk ?_ | refine Run.skip ?_))
    refine Run.condD rfl (fun hz => ?_) (fun hz => ?_)
    · (repeat (first | (apply Ops.q; rfl; rfl) | (apply Ops.gyB; rfl; rfl) | (apply Ops.gnB; rfl; decide) | (apply Ops.add; rfl; rfl; (constructor <;> omega)) | (apply Ops.sub; rfl; rfl; (constructor <;> omega)) | (apply Ops.rem; rfl; rfl; omega; omega) | (apply Ops.quo; rfl; rfl; (constructor <;> omega); omega) | (apply Ops.ld; rfl; (first | exact m0 | exact m1 | exact m2 | exact m3 | exact m4 | exact m5 | exact m6); rfl) | (apply Ops.st0; rfl; rfl; rfl; rfl; (first | exact u0 | exact u1 | exact u2 | exact u3 | exact u4 | exact u5); focus (simp; done)) | refine Ops.nil ?_ | refine Segs.nil ?_ | (apply Segs.oneS; rfl) | refine Run.seq ?_ | refine Run.reg ?_ | refine Run.block ?_ | refine Run.blk ?_ | refine Run.skip ?_))
      refine Ops.callE1 [DiskP d { D with steps := DiskS.wrap (D.steps + 1), fate := D.fate - 1 }] [] rfl (fold_grp (.cons s0 (.cons s0 (.cons s0 .nil))) ⟨kb, ca, cc, ⟨hok.kept, hok.cache, hok.size, hok.keeps, hok.few, by dsimp only; omega⟩, rfl⟩)
        (fun F' e kn => crash_any d { D with steps := DiskS.wrap (D.steps + 1), fate := D.fate - 1 } D.keeps hok.keeps F') ?_
      rintro v G ⟨rfl, rfl⟩
      simp only [List.cons_append, List.nil_append]
      (repeat (first | (apply Ops.q; rfl; rfl) | (apply Ops.gyB; rfl; rfl) | (apply Ops.gnB; rfl; decide) | (apply Ops.add; rfl; rfl; (constructor <;> omega)) | (apply Ops.sub; rfl; rfl; (constructor <;> omega)) | (apply Ops.rem; rfl; rfl; omega; omega) | (apply Ops.quo; rfl; rfl; (constructor <;> omega); omega) | (apply Ops.ld; rfl; (first | exact m0 | exact m1 | exact m2 | exact m3 | exact m4 | exact m5 | exact m6); rfl) | (apply Ops.st0; rfl; rfl; rfl; rfl; (first | exact u0 | exact u1 | exact u2 | exact u3 | exact u4 | exact u5); focus (simp; done)) | refine Ops.nil ?_ | refine Segs.nil ?_ | (apply Segs.oneS; rfl) | refine Run.seq ?_ | refine Run.reg ?_ | refine Run.block ?_ | refine Run.blk ?_ | refine Run.skip ?_))
      refine Run.ret1 Try.func40 rfl rfl (fun h q => q) ⟨?_, ?_⟩
      all_goals (unfold DiskS.step; rw [if_pos hf, if_pos hz])
    · (repeat (first | (apply Ops.q; rfl; rfl) | (apply Ops.gyB; rfl; rfl) | (apply Ops.gnB; rfl; decide) | (apply Ops.add; rfl; rfl; (constructor <;> omega)) | (apply Ops.sub; rfl; rfl; (constructor <;> omega)) | (apply Ops.rem; rfl; rfl; omega; omega) | (apply Ops.quo; rfl; rfl; (constructor <;> omega); omega) | (apply Ops.ld; rfl; (first | exact m0 | exact m1 | exact m2 | exact m3 | exact m4 | exact m5 | exact m6); rfl) | (apply Ops.st0; rfl; rfl; rfl; rfl; (first | exact u0 | exact u1 | exact u2 | exact u3 | exact u4 | exact u5); focus (simp; done)) | refine Ops.nil ?_ | refine Segs.nil ?_ | (apply Segs.oneS; rfl) | refine Run.seq ?_ | refine Run.reg ?_ | refine Run.block ?_ | refine Run.blk ?_ | refine Run.skip ?_))
      refine Run.ret1 Try.func40 rfl rfl (fold_grp (.cons s0 (.cons s0 (.cons s0 .nil))) ⟨kb, ca, cc, hok.step, ?_⟩) ⟨?_, rfl⟩
      · unfold DiskS.step; rw [if_pos hf, if_neg hz]
      · unfold DiskS.step; rw [if_pos hf, if_neg hz]; rfl
  · (repeat (first | (apply Ops.q; rfl; rfl) | (apply Ops.gyB; rfl; rfl) | (apply Ops.gnB; rfl; decide) | (apply Ops.add; rfl; rfl; (constructor <;> omega)) | (apply Ops.sub; rfl; rfl; (constructor <;> omega)) | (apply Ops.rem; rfl; rfl; omega; omega) | (apply Ops.quo; rfl; rfl; (constructor <;> omega); omega) | (apply Ops.ld; rfl; (first | exact m0 | exact m1 | exact m2 | exact m3 | exact m4 | exact m5 | exact m6); rfl) | (apply Ops.st0; rfl; rfl; rfl; rfl; (first | exact u0 | exact u1 | exact u2 | exact u3 | exact u4 | exact u5); focus (simp; done)) | refine Ops.nil ?_ | refine Segs.nil ?_ | (apply Segs.oneS; rfl) | refine Run.seq ?_ | refine Run.reg ?_ | refine Run.block ?_ | refine Run.blk ?_ | refine Run.skip ?_))
    refine Run.ret1 Try.func40 rfl rfl (fold_grp (.cons s0 (.cons s0 (.cons s0 .nil))) ⟨kb, ca, cc, hok.step, ?_⟩) ⟨?_, rfl⟩
    · unfold DiskS.step; rw [if_neg hf]
    · unfold DiskS.step; rw [if_neg hf]; rfl

theorem disk_Write (d : Nat) (D : DiskS) (hc : D.cache.length < 1099511627776) (at_ : Int) (s : Bytes) (hs : s.length = 64) (F : Hp) :
    Spec Try.prog 34 [.pointer (some ⟨d, 0, none⟩), .int .i64 at_, .agg (bvs s).toArray].toArray F [DiskP d D] fun v H => v = .int .i64 (D.write at_ s).1 ∧ H = [DiskP d (D.write at_ s).2] := by
  refine Spec.enter (n := 39) Try.func34 ok_disk_Disk_Write rfl (by simp) ?_
  unfold ec_disk_Disk_Write
  simp only [argFr, Nat.reduceAdd]
  refine Run.open_ s0 fun G ⟨kb, ca, cc, hok, hG⟩ => ?_
  subst hG
  simp only [List.cons_append, List.nil_append]
  (repeat (first | (apply Ops.q; rfl; rfl) | (apply Ops.gyB; rfl; rfl) | (apply Ops.gnB; rfl; decide) | (apply Ops.add; rfl; rfl; (constructor <;> omega)) | (apply Ops.sub; rfl; rfl; (constructor <;> omega)) | (apply Ops.rem; rfl; rfl; omega; omega) | (apply Ops.quo; rfl; rfl; (constructor <;> omega); omega) | (apply Ops.ld; rfl; (first | exact m0 | exact m1 | exact m2 | exact m3 | exact m4 | exact m5 | exact m6); rfl) | (apply Ops.st0; rfl; rfl; rfl; rfl; (first | exact u0 | exact u1 | exact u2 | exact u3 | exact u4 | exact u5); focus (simp; done)) | refine Ops.nil ?_ | refine Segs.nil ?_ | (apply Segs.oneS; rfl) | refine Run.seq ?_ | refine Run.reg ?_ | refine Run.block ?_ | refine Run.blk ?_ | refine Run.skip ?_))
  refine Ops.box (vs := bvs s) rfl rfl fun b5 => ?_
  (repeat (first | (apply Ops.q; rfl; rfl) | (apply Ops.gyB; rfl; rfl) | (apply Ops.gnB; rfl; decide) | (apply Ops.add; rfl; rfl; (constructor <;> omega)) | (apply Ops.sub; rfl; rfl; (constructor <;> omega)) | (apply Ops.rem; rfl; rfl; omega; omega) | (apply Ops.quo; rfl; rfl; (constructor <;> omega); omega) | (apply Ops.ld; rfl; (first | exact m0 | exact m1 | exact m2 | exact m3 | exact m4 | exact m5 | exact m6); rfl) | (apply Ops.st0; rfl; rfl; rfl; rfl; (first | exact u0 | exact u1 | exact u2 | exact u3 | exact u4 | exact u5); focus (simp; done)) | refine Ops.nil ?_ | refine Segs.nil ?_ | (apply Segs.oneS; rfl) | refine Run.seq ?_ | refine Run.reg ?_ | refine Run.block ?_ | refine Run.blk ?_ | refine Run.skip ?_))
  have hfold : ∀ h, seps [.pt b5 (.cells (bvs s).toArray 57 (0, 0)), .pt d (.cells [.slice (some ⟨kb, 0, none⟩) D.kept.length D.kept.length, .slice ca D.cache.length cc, .bool D.down, .int .i64 D.fate, .int .u64 D.keeps, .int .i64 D.steps].toArray 53 (0, 0)),
      .pt kb (.cells (D.kept.flatMap bvs).toArray 57 (0, 0)), OwnS ca D.cache.length cc 65 76 (D.cache.flatMap wv)] h → seps [DiskP d D] h :=
    fun h q => take_sub (.cons s0 .nil) h (fold_grp (.cons s1 (.cons s1 (.cons s1 .nil))) ⟨kb, ca, cc, hok, rfl⟩ h q)
  unfold DiskS.write
  cases hd : D.down with
  | true =>
    rw [hd] at hfold
    refine Run.condT rfl ?_
    (repeat (first | (apply Ops.q; rfl; rfl) | (apply Ops.gyB; rfl; rfl) | (apply Ops.gnB; rfl; decide) | (apply Ops.add; rfl; rfl; (constructor <;> omega)) | (apply Ops.sub; rfl; rfl; (constructor <;> omega)) | (apply Ops.rem; rfl; rfl; omega; omega) | (apply Ops.quo; rfl; rfl; (constructor <;> omega); omega) | (apply Ops.ld; rfl; (first | exact m0 | exact m1 | exact m2 | exact m3 | exact m4 | exact m5 | exact m6); rfl) | (apply Ops.st0; rfl; rfl; rfl; rfl; (first | exact u0 | exact u1 | exact u2 | exact u3 | exact u4 | exact u5); focus (simp; done)) | refine Ops.nil ?_ | refine Segs.nil ?_ | (apply Segs.oneS; rfl) | refine Run.seq ?_ | refine Run.reg ?_ | refine Run.block ?_ | refine Run.blk ?_ | refine Run.skip ?_))
    exact Run.ret1 Try.func34 rfl rfl hfold ⟨rfl, rfl⟩
  | false =>
    rw [hd] at hfold
    rw [if_neg (by simp)]
    refine Run.condF rfl ?_
    (repeat (first | (apply Ops.q; rfl; rfl) | (apply Ops.gyB; rfl; rfl) | (apply Ops.gnB; rfl; decide) | (apply Ops.add; rfl; rfl; (constructor <;> omega)) | (apply Ops.sub; rfl; rfl; (constructor <;> omega)) | (apply Ops.rem; rfl; rfl; omega; omega) | (apply Ops.quo; rfl; rfl; (constructor <;> omega); omega) | (apply Ops.ld; rfl; (first | exact m0 | exact m1 | exact m2 | exact m3 | exact m4 | exact m5 | exact m6); rfl) | (apply Ops.st0; rfl; rfl; rfl; rfl; (first | exact u0 | exact u1 | exact u2 | exact u3 | exact u4 | exact u5); focus (simp; done)) | refine Ops.nil ?_ | refine Segs.nil ?_ | (apply Segs.oneS; rfl) | refine Run.seq ?_ | refine Run.reg ?_ | refine Run.block ?_ | refine Run.blk ?_ | refine Run.skip ?_))
    by_cases h1 : at_ < 0
    · rw [if_pos (.inl h1)]
      have e1 : decide (at_ < 0) = true := by simpa using h1
      simp only [e1]
      (repeat (first | (apply Ops.q; rfl; rfl) | (apply Ops.gyB; rfl; rfl) | (apply Ops.gnB; rfl; decide) | (apply Ops.add; rfl; rfl; (constructor <;> omega)) | (apply Ops.sub; rfl; rfl; (constructor <;> omega)) | (apply Ops.rem; rfl; rfl; omega; omega) | (apply Ops.quo; rfl; rfl; (constructor <;> omega); omega) | (apply Ops.ld; rfl; (first | exact m0 | exact m1 | exact m2 | exact m3 | exact m4 | exact m5 | exact m6); rfl) | (apply Ops.st0; rfl; rfl; rfl; rfl; (first | exact u0 | exact u1 | exact u2 | exact u3 | exact u4 | exact u5); focus (simp; done)) | refine Ops.nil ?_ | refine Segs.nil ?_ | (apply Segs.oneS; rfl) | refine Run.seq ?_ | refine Run.reg ?_ | refine Run.block ?_ | refine Run.blk ?_ | refine Run.skip ?_))
      refine Run.condT rfl ?_
      (repeat (first | (apply Ops.q; rfl; rfl) | (apply Ops.gyB; rfl; rfl) | (apply Ops.gnB; rfl; decide) | (apply Ops.add; rfl; rfl; (constructor <;> omega)) | (apply Ops.sub; rfl; rfl; (constructor <;> omega)) | (apply Ops.rem; rfl; rfl; omega; omega) | (apply Ops.quo; rfl; rfl; (constructor <;> omega); omega) | (apply Ops.ld; rfl; (first | exact m0 | exact m1 | exact m2 | exact m3 | exact m4 | exact m5 | exact m6); rfl) | (apply Ops.st0; rfl; rfl; rfl; rfl; (first | exact u0 | exact u1 | exact u2 | exact u3 | exact u4 | exact u5); focus (simp; done)) | refine Ops.nil ?_ | refine Segs.nil ?_ | (apply Segs.oneS; rfl) | refine Run.seq ?_ | refine Run.reg ?_ | refine Run.block ?_ | refine Run.blk ?_ | refine Run.skip ?_))
      exact Run.ret1 Try.func34 rfl rfl hfold ⟨rfl, rfl⟩
    · have e1 : decide (at_ < 0) = false := by simpa using h1
      simp only [e1]
      (repeat (first | (apply Ops.q; rfl; rfl) | (apply Ops.gyB; rfl; rfl) | (apply Ops.gnB; rfl; decide) | (apply Ops.add; rfl; rfl; (constructor <;> omega)) | (apply Ops.sub; rfl; rfl; (constructor <;> omega)) | (apply Ops.rem; rfl; rfl; omega; omega) | (apply Ops.quo; rfl; rfl; (constructor <;> omega); omega) | (apply Ops.ld; rfl; (first | exact m0 | exact m1 | exact m2 | exact m3 | exact m4 | exact m5 | exact m6); rfl) | (apply Ops.st0; rfl; rfl; rfl; rfl; (first | exact u0 | exact u1 | exact u2 | exact u3 | exact u4 | exact u5); focus (simp; done)) | refine Ops.nil ?_ | refine Segs.nil ?_ | (apply Segs.oneS; rfl) | refine Run.seq ?_ | refine Run.reg ?_ | refine Run.block ?_ | refine Run.blk ?_ | refine Run.skip ?_))
      refine Run.condD rfl (fun h2 => ?_) (fun h2 => ?_)
      · rw [if_pos (.inr h2)]
        (repeat (first | (apply Ops.q; rfl; rfl) | (apply Ops.gyB; rfl; rfl) | (apply Ops.gnB; rfl; decide) | (apply Ops.add; rfl; rfl; (constructor <;> omega)) | (apply Ops.sub; rfl; rfl; (constructor <;> omega)) | (apply Ops.rem; rfl; rfl; omega; omega) | (apply Ops.quo; rfl; rfl; (constructor <;> omega); omega) | (apply Ops.ld; rfl; (first | exact m0 | exact m1 | exact m2 | exact m3 | exact m4 | exact m5 | exact m6); rfl) | (apply Ops.st0; rfl; rfl; rfl; rfl; (first | exact u0 | exact u1 | exact u2 | exact u3 | exact u4 | exact u5); focus (simp; done)) | refine Ops.nil ?_ | refine Segs.nil ?_ | (apply Segs.oneS; rfl) | refine Run.seq ?_ | refine Run.reg ?_ | refine Run.block ?_ | refine Run.blk ?_ | refine Run.skip ?_))
        exact Run.ret1 Try.func34 rfl rfl hfold ⟨rfl, rfl⟩
      · rw [if_neg (by omega)]
        (repeat (first | (apply Ops.q; rfl; rfl) | (apply Ops.gyB; rfl; rfl) | (apply Ops.gnB; rfl; decide) | (apply Ops.add; rfl; rfl; (constructor <;> omega)) | (apply Ops.sub; rfl; rfl; (constructor <;> omega)) | (apply Ops.rem; rfl; rfl; omega; omega) | (apply Ops.quo; rfl; rfl; (constructor <;> omega); omega) | (apply Ops.ld; rfl; (first | exact m0 | exact m1 | exact m2 | exact m3 | exact m4 | exact m5 | exact m6); rfl) | (apply Ops.st0; rfl; rfl; rfl; rfl; (first | exact u0 | exact u1 | exact u2 | exact u3 | exact u4 | exact u5); focus (simp; done)) | refine Ops.nil ?_ | refine Segs.nil ?_ | (apply Segs.oneS; rfl) | refine Run.seq ?_ | refine Run.reg ?_ | refine Run.block ?_ | refine Run.blk ?_ | refine Run.skip ?_))
        refine Segs.lend [_, _] (.cons s1 (.cons s0 .nil)) fun F1 x1 k1 => ?_
        (repeat (first | (apply Ops.q; rfl; rfl) | (apply Ops.gyB; rfl; rfl) | (apply Ops.gnB; rfl; decide) | (apply Ops.add; rfl; rfl; (constructor <;> omega)) | (apply Ops.sub; rfl; rfl; (constructor <;> omega)) | (apply Ops.rem; rfl; rfl; omega; omega) | (apply Ops.quo; rfl; rfl; (constructor <;> omega); omega) | (apply Ops.ld; rfl; (first | exact m0 | exact m1 | exact m2 | exact m3 | exact m4 | exact m5 | exact m6); rfl) | (apply Ops.st0; rfl; rfl; rfl; rfl; (first | exact u0 | exact u1 | exact u2 | exact u3 | exact u4 | exact u5); focus (simp; done)) | refine Ops.nil ?_ | refine Segs.nil ?_ | (apply Segs.oneS; rfl) | refine Run.seq ?_ | refine Run.reg ?_ | refine Run.block ?_ | refine Run.blk ?_ | refine Run.skip ?_))
        refine Ops.ldF rfl (k1 _ _ m0) rfl ?_
        refine Ops.ldnF rfl (k1 _ _ m1) (by rw [bvs_len, hs]; exact Nat.le_refl _) ?_
        simp only [List.drop_zero, List.take_of_length_le (show (bvs s).length ≤ 64 by rw [bvs_len, hs]; exact Nat.le_refl _)]
        refine Ops.bld (wv (at_.toNat, s)) rfl (by simp [buildL, vcells, zl65_4, wv, bvs_len, hs]; omega) ?_
        refine Ops.lit (wv (at_.toNat, s)) rfl (by have := wv_len (e := (at_.toNat, s)) hs; simp [buildL, vcells, zl65_4, this]) fun b6 => ?_
        (repeat (first | (apply Ops.q; rfl; rfl) | (apply Ops.gyB; rfl; rfl) | (apply Ops.gnB; rfl; decide) | (apply Ops.add; rfl; rfl; (constructor <;> omega)) | (apply Ops.sub; rfl; rfl; (constructor <;> omega)) | (apply Ops.rem; rfl; rfl; omega; omega) | (apply Ops.quo; rfl; rfl; (constructor <;> omega); omega) | (apply Ops.ld; rfl; (first | exact m0 | exact m1 | exact m2 | exact m3 | exact m4 | exact m5 | exact m6); rfl) | (apply Ops.st0; rfl; rfl; rfl; rfl; (first | exact u0 | exact u1 | exact u2 | exact u3 | exact u4 | exact u5); focus (simp; done)) | refine Ops.nil ?_ | refine Segs.nil ?_ | (apply Segs.oneS; rfl) | refine Run.seq ?_ | refine Run.reg ?_ | refine Run.block ?_ | refine Run.blk ?_ | refine Run.skip ?_))
        simp only [List.cons_append, List.nil_append]
        have hw65 := wv_len (e := (at_.toNat, s)) hs
        refine Ops.app (m := 1) (ys := wv (at_.toNat, s)) rfl rfl rfl s4 (shows_pt m2 (by simp [zl65_4, hw65]) (by simp [zl65_4]; rw [List.take_of_length_le (by omega)])) (wv_one _) (by rw [hw65]; rfl) (by simp [zl65_4]) (by omega) ?_
        intro a' c'
        (repeat (first | (apply Ops.q; rfl; rfl) | (apply Ops.gyB; rfl; rfl) | (apply Ops.gnB; rfl; decide) | (apply Ops.add; rfl; rfl; (constructor <;> omega)) | (apply Ops.sub; rfl; rfl; (constructor <;> omega)) | (apply Ops.rem; rfl; rfl; omega; omega) | (apply Ops.quo; rfl; rfl; (constructor <;> omega); omega) | (apply Ops.ld; rfl; (first | exact m0 | exact m1 | exact m2 | exact m3 | exact m4 | exact m5 | exact m6); rfl) | (apply Ops.st0; rfl; rfl; rfl; rfl; (first | exact u0 | exact u1 | exact u2 | exact u3 | exact u4 | exact u5); focus (simp; done)) | refine Ops.nil ?_ | refine Segs.nil ?_ | (apply Segs.oneS; rfl) | refine Run.seq ?_ | refine Run.reg ?_ | refine Run.block ?_ | refine Run.blk ?_ | refine Run.skip ?_))
        refine Ops.callE1 [DiskP d { D with cache := D.cache ++ [(at_.toNat, s)], down := false }] [] rfl (fun h q => take_sub (.cons s0 .nil) h (fold_grp (.cons s1 (.cons s3 (.cons s0 .nil))) ⟨kb, a', c', ?ok, ?eq⟩ h q)) (fun F' e kn => disk_step d _ F') ?k
        case ok =>
          refine ⟨hok.kept, fun e he => ?_, hok.size, hok.keeps, by simp; omega, hok.fate⟩
          rcases List.mem_append.1 he with x | x
          · exact hok.cache e x
          · simp at x; subst x; exact ⟨by simp only; omega, hs⟩
        case eq => simp [zl65_4]
        rintro v G ⟨rfl, rfl⟩
        simp only [List.cons_append, List.nil_append]
        (repeat (first | (apply Ops.q; rfl; rfl) | (apply Ops.gyB; rfl; rfl) | (apply Ops.gnB; rfl; decide) | (apply Ops.add; rfl; rfl; (constructor <;> omega)) | (apply Ops.sub; rfl; rfl; (constructor <;> omega)) | (apply Ops.rem; rfl; rfl; omega; omega) | (apply Ops.quo; rfl; rfl; (constructor <;> omega); omega) | (apply Ops.ld; rfl; (first | exact m0 | exact m1 | exact m2 | exact m3 | exact m4 | exact m5 | exact m6); rfl) | (apply Ops.st0; rfl; rfl; rfl; rfl; (first | exact u0 | exact u1 | exact u2 | exact u3 | exact u4 | exact u5); focus (simp; done)) | refine Ops.nil ?_ | refine Segs.nil ?_ | (apply Segs.oneS; rfl) | refine Run.seq ?_ | refine Run.reg ?_ | refine Run.block ?_ | refine Run.blk ?_ | refine Run.skip ?_))
        cases hst : ({ D with cache := D.cache ++ [(at_.toNat, s)], down := false } : DiskS).step.1 with
        | true =>
          refine Run.condF rfl ?_
          (repeat (first | (apply Ops.q; rfl; rfl) | (apply Ops.gyB; rfl; rfl) | (apply Ops.gnB; rfl; decide) | (apply Ops.add; rfl; rfl; (constructor <;> omega)) | (apply Ops.sub; rfl; rfl; (constructor <;> omega)) | (apply Ops.rem; rfl; rfl; omega; omega) | (apply Ops.quo; rfl; rfl; (constructor <;> omega); omega) | (apply Ops.ld; rfl; (first | exact m0 | exact m1 | exact m2 | exact m3 | exact m4 | exact m5 | exact m6); rfl) | (apply Ops.st0; rfl; rfl; rfl; rfl; (first | exact u0 | exact u1 | exact u2 | exact u3 | exact u4 | exact u5); focus (simp; done)) | refine Ops.nil ?_ | refine Segs.nil ?_ | (apply Segs.oneS; rfl) | refine Run.seq ?_ | refine Run.reg ?_ | refine Run.block ?_ | refine Run.blk ?_ | refine Run.skip ?_))
          exact Run.ret1 Try.func34 rfl rfl (fun h q => q) ⟨by simp, rfl⟩
        | false =>
          refine Run.condT rfl ?_
          (repeat (first | (apply Ops.q; rfl; rfl) | (apply Ops.gyB; rfl; rfl) | (apply Ops.gnB; rfl; decide) | (apply Ops.add; rfl; rfl; (constructor <;> omega)) | (apply Ops.sub; rfl; rfl; (constructor <;> omega)) | (apply Ops.rem; rfl; rfl; omega; omega) | (apply Ops.quo; rfl; rfl; (constructor <;> omega); omega) | (apply Ops.ld; rfl; (first | exact m0 | exact m1 | exact m2 | exact m3 | exact m4 | exact m5 | exact m6); rfl) | (apply Ops.st0; rfl; rfl; rfl; rfl; (first | exact u0 | exact u1 | exact u2 | exact u3 | exact u4 | exact u5); focus (simp; done)) | refine Ops.nil ?_ | refine Segs.nil ?_ | (apply Segs.oneS; rfl) | refine Run.seq ?_ | refine Run.reg ?_ | refine Run.block ?_ | refine Run.blk ?_ | refine Run.skip ?_))
          exact Run.ret1 Try.func34 rfl rfl (fun h q => q) ⟨by simp, rfl⟩
end Eng
end Go.Proofs.Ytbhlolmglieehaa

/- The disk: flushes. -/
set_option linter.unusedSimpArgs false
set_option linter.unusedVariables false
namespace Go.Proofs.Ytbhlolmglieehaa
namespace Eng
attribute [local irreducible] Ops Segs Run Spec

theorem disk_Flush (d : Nat) (D : DiskS) (F : Hp) :
    Spec Try.prog 31 [.pointer (some ⟨d, 0, none⟩)].toArray F [DiskP d D] fun v H => v = .int .i64 D.flush.1 ∧ H = [DiskP d D.flush.2] := by
  refine Spec.enter (n := 34) Try.func31 ok_disk_Disk_Flush rfl (by simp) ?_
  unfold ec_disk_Disk_Flush
  simp only [argFr, Nat.reduceAdd]
  refine Run.open_ s0 fun G ⟨kb, ca, cc, hok, hG⟩ => ?_
  subst hG
  simp only [List.cons_append, List.nil_append]
  (repeat (first | (apply Ops.q; rfl; rfl) | (apply Ops.gyB; rfl; rfl) | (apply Ops.gnB; rfl; decide) | (apply Ops.add; rfl; rfl; (constructor <;> omega)) | (apply Ops.sub; rfl; rfl; (constructor <;> omega)) | (apply Ops.rem; rfl; rfl; omega; omega) | (apply Ops.quo; rfl; rfl; (constructor <;> omega); omega) | (apply Ops.ld; rfl; (first | exact m0 | exact m1 | exact m2 | exact m3 | exact m4 | exact m5 | exact m6); rfl) | (apply Ops.st0; rfl; rfl; rfl; rfl; (first | exact u0 | exact u1 | exact u2 | exact u3 | exact u4 | exact u5); focus (simp; done)) | refine Ops.nil ?_ | refine Segs.nil ?_ | (apply Segs.oneS; rfl) | refine Run.seq ?_ | refine Run.reg ?_ | refine Run.block ?_ | refine Run.blk ?_ | refine Run.skip ?_))
  have hfold : ∀ h, seps [.pt d (.cells [.slice (some ⟨kb, 0, none⟩) D.kept.length D.kept.length, .slice ca D.cache.length cc, .bool D.down, .int .i64 D.fate, .int .u64 D.keeps, .int .i64 D.steps].toArray 53 (0, 0)),
      .pt kb (.cells (D.kept.flatMap bvs).toArray 57 (0, 0)), OwnS ca D.cache.length cc 65 76 (D.cache.flatMap wv)] h → seps [DiskP d D] h :=
    fun h q => fold_grp (.cons s0 (.cons s0 (.cons s0 .nil))) ⟨kb, ca, cc, hok, rfl⟩ h q
  unfold DiskS.flush
  by_cases hd : D.down = true
  · rw [if_pos hd]
    refine Run.condT (by rw [← hd]; rfl) ?_
    (repeat (first | (apply Ops.q; rfl; rfl) | (apply Ops.gyB; rfl; rfl) | (apply Ops.gnB; rfl; decide) | (apply Ops.add; rfl; rfl; (constructor <;> omega)) | (apply Ops.sub; rfl; rfl; (constructor <;> omega)) | (apply Ops.rem; rfl; rfl; omega; omega) | (apply Ops.quo; rfl; rfl; (constructor <;> omega); omega) | (apply Ops.ld; rfl; (first | exact m0 | exact m1 | exact m2 | exact m3 | exact m4 | exact m5 | exact m6); rfl) | (apply Ops.st0; rfl; rfl; rfl; rfl; (first | exact u0 | exact u1 | exact u2 | exact u3 | exact u4 | exact u5); focus (simp; done)) | refine Ops.nil ?_ | refine Segs.nil ?_ | (apply Segs.oneS; rfl) | refine Run.seq ?_ | refine Run.reg ?_ | refine Run.block ?_ | refine Run.blk ?_ | refine Run.skip ?_))
    exact Run.ret1 Try.func31 rfl rfl hfold ⟨rfl, rfl⟩
  rw [if_neg hd]
  refine Run.condF (by have : D.down = false := by simpa using hd
                       rw [← this]; rfl) ?_
  (repeat (first | (apply Ops.q; rfl; rfl) | (apply Ops.gyB; rfl; rfl) | (apply Ops.gnB; rfl; decide) | (apply Ops.add; rfl; rfl; (constructor <;> omega)) | (apply Ops.sub; rfl; rfl; (constructor <;> omega)) | (apply Ops.rem; rfl; rfl; omega; omega) | (apply Ops.quo; rfl; rfl; (constructor <;> omega); omega) | (apply Ops.ld; rfl; (first | exact m0 | exact m1 | exact m2 | exact m3 | exact m4 | exact m5 | exact m6); rfl) | (apply Ops.st0; rfl; rfl; rfl; rfl; (first | exact u0 | exact u1 | exact u2 | exact u3 | exact u4 | exact u5); focus (simp; done)) | refine Ops.nil ?_ | refine Segs.nil ?_ | (apply Segs.oneS; rfl) | refine Run.seq ?_ | refine Run.reg ?_ | refine Run.block ?_ | refine Run.blk ?_ | refine Run.skip ?_))
  refine Ops.callE1 [DiskP d D] [] rfl hfold (fun F' e kn => disk_step d D F') ?_
  rintro v G ⟨rfl, rfl⟩
  simp only [List.cons_append, List.nil_append]
  (repeat (first | (apply Ops.q; rfl; rfl) | (apply Ops.gyB; rfl; rfl) | (apply Ops.gnB; rfl; decide) | (apply Ops.add; rfl; rfl; (constructor <;> omega)) | (apply Ops.sub; rfl; rfl; (constructor <;> omega)) | (apply Ops.rem; rfl; rfl; omega; omega) | (apply Ops.quo; rfl; rfl; (constructor <;> omega); omega) | (apply Ops.ld; rfl; (first | exact m0 | exact m1 | exact m2 | exact m3 | exact m4 | exact m5 | exact m6); rfl) | (apply Ops.st0; rfl; rfl; rfl; rfl; (first | exact u0 | exact u1 | exact u2 | exact u3 | exact u4 | exact u5); focus (simp; done)) | refine Ops.nil ?_ | refine Segs.nil ?_ | (apply Segs.oneS; rfl) | refine Run.seq ?_ | refine Run.reg ?_ | refine Run.block ?_ | refine Run.blk ?_ | refine Run.skip ?_))
  by_cases hst : D.step.1 = true
  · rw [hst]
    refine Run.condF rfl ?_
    simp only [if_true]
    clear hfold hok hd
    generalize D.step.2 = D at *
    refine Run.open_ s0 fun G ⟨kb, ca, cc, hok, hG⟩ => ?_
    subst hG
    simp only [List.cons_append, List.nil_append]
    have hfew := hok.few
    (repeat (first | (apply Ops.q; rfl; rfl) | (apply Ops.gyB; rfl; rfl) | (apply Ops.gnB; rfl; decide) | (apply Ops.add; rfl; rfl; (constructor <;> omega)) | (apply Ops.sub; rfl; rfl; (constructor <;> omega)) | (apply Ops.rem; rfl; rfl; omega; omega) | (apply Ops.quo; rfl; rfl; (constructor <;> omega); omega) | (apply Ops.ld; rfl; (first | exact m0 | exact m1 | exact m2 | exact m3 | exact m4 | exact m5 | exact m6); rfl) | (apply Ops.st0; rfl; rfl; rfl; rfl; (first | exact u0 | exact u1 | exact u2 | exact u3 | exact u4 | exact u5); focus (simp; done)) | refine Ops.nil ?_ | refine Segs.nil ?_ | (apply Segs.oneS; rfl) | refine Run.seq ?_ | refine Run.reg ?_ | refine Run.block ?_ | refine Run.blk ?_ | refine Run.skip ?_))
    refine Run.loopI (ι := Nat × List Bytes) (fun x => D.cache.length - x.1) (fun x => x.1 ≤ D.cache.length ∧ x.2.length = D.kept.length ∧ (∀ s ∈ x.2, s.length = 64) ∧ DiskS.keepAll (D.cache.drop x.1) x.2 = DiskS.keepAll D.cache D.kept)
      (fun x => [(17, .int .i64 x.1), (16, .int .i64 D.cache.length), (15, .slice ca D.cache.length cc), (0, .pointer (some ⟨d, 0, none⟩))])
      (fun x => [.pt d (.cells [.slice (some ⟨kb, 0, none⟩) D.kept.length D.kept.length, .slice ca D.cache.length cc, .bool D.down, .int .i64 D.fate, .int .u64 D.keeps, .int .i64 D.steps].toArray 53 (0, 0)),
        .pt kb (.cells (x.2.flatMap bvs).toArray 57 (0, 0)), OwnS ca D.cache.length cc 65 76 (D.cache.flatMap wv)])
      (0, D.kept) ⟨Nat.zero_le _, rfl, hok.kept, rfl⟩ (.cons rfl (.cons rfl (.cons rfl (.cons rfl .nil)))) (fun _ h => h) ?_
    rintro ⟨i, kept⟩ ⟨hi, hlen, h64, hks⟩ ih
    dsimp only at hi hlen h64 hks ih ⊢
    unfold ec_disk_Disk_Flush_L0
    (repeat (first | (apply Ops.q; rfl; rfl) | (apply Ops.gyB; rfl; rfl) | (apply Ops.gnB; rfl; decide) | (apply Ops.add; rfl; rfl; (constructor <;> omega)) | (apply Ops.sub; rfl; rfl; (constructor <;> omega)) | (apply Ops.rem; rfl; rfl; omega; omega) | (apply Ops.quo; rfl; rfl; (constructor <;> omega); omega) | (apply Ops.ld; rfl; (first | exact m0 | exact m1 | exact m2 | exact m3 | exact m4 | exact m5 | exact m6); rfl) | (apply Ops.st0; rfl; rfl; rfl; rfl; (first | exact u0 | exact u1 | exact u2 | exact u3 | exact u4 | exact u5); focus (simp; done)) | refine Ops.nil ?_ | refine Segs.nil ?_ | (apply Segs.oneS; rfl) | refine Run.seq ?_ | refine Run.reg ?_ | refine Run.block ?_ | refine Run.blk ?_ | refine Run.skip ?_))
    refine Run.condD rfl (fun hlt => ?_) (fun hge => ?_)
    · have hlt' : i < D.cache.length := by omega
      refine Run.open_ s2 fun G ⟨hxs, hG⟩ => ?_
      rcases hG with ⟨_, hn, _, _⟩ | ⟨cb, spare, hca, hnc, hcap, hG⟩
      · omega
      subst hca; subst hG
      simp only [List.cons_append, List.nil_append]
      have hel : D.cache[i]? = some D.cache[i] := List.getElem?_eq_getElem hlt'
      have hwl : ∀ e ∈ D.cache, (wv e).length = 65 := fun e he => wv_len (hok.cache e he).2
      have hget := flat_get D.cache spare i _ hwl hel
      obtain ⟨hat, hs64⟩ := hok.cache _ (List.getElem_mem hlt')
      have hdrop : D.cache.drop i = D.cache[i] :: D.cache.drop (i + 1) := List.drop_eq_getElem_cons hlt'
      generalize D.cache[i] = e at *
      obtain ⟨at_, s⟩ := e
      dsimp only at hat hs64
      rw [hdrop] at hks
      simp only [DiskS.keepAll] at hks
      (repeat (first | (apply Ops.q; rfl; rfl) | (apply Ops.gyB; rfl; rfl) | (apply Ops.gnB; rfl; decide) | (apply Ops.add; rfl; rfl; (constructor <;> omega)) | (apply Ops.sub; rfl; rfl; (constructor <;> omega)) | (apply Ops.rem; rfl; rfl; omega; omega) | (apply Ops.quo; rfl; rfl; (constructor <;> omega); omega) | (apply Ops.ld; rfl; (first | exact m0 | exact m1 | exact m2 | exact m3 | exact m4 | exact m5 | exact m6); rfl) | (apply Ops.st0; rfl; rfl; rfl; rfl; (first | exact u0 | exact u1 | exact u2 | exact u3 | exact u4 | exact u5); focus (simp; done)) | refine Ops.nil ?_ | refine Segs.nil ?_ | (apply Segs.oneS; rfl) | refine Run.seq ?_ | refine Run.reg ?_ | refine Run.block ?_ | refine Run.blk ?_ | refine Run.skip ?_))
      refine Ops.ixS rfl rfl ⟨by omega, by omega⟩ ?_
      refine Ops.ldn rfl m0 (by rw [List.length_append, hxs] at *; omega) ?_
      simp only [Nat.zero_add, Int.toNat_natCast, hget]
      refine Ops.alloc fun b5 => ?_
      (repeat (first | (apply Ops.q; rfl; rfl) | (apply Ops.gyB; rfl; rfl) | (apply Ops.gnB; rfl; decide) | (apply Ops.add; rfl; rfl; (constructor <;> omega)) | (apply Ops.sub; rfl; rfl; (constructor <;> omega)) | (apply Ops.rem; rfl; rfl; omega; omega) | (apply Ops.quo; rfl; rfl; (constructor <;> omega); omega) | (apply Ops.ld; rfl; (first | exact m0 | exact m1 | exact m2 | exact m3 | exact m4 | exact m5 | exact m6); rfl) | (apply Ops.st0; rfl; rfl; rfl; rfl; (first | exact u0 | exact u1 | exact u2 | exact u3 | exact u4 | exact u5); focus (simp; done)) | refine Ops.nil ?_ | refine Segs.nil ?_ | (apply Segs.oneS; rfl) | refine Run.seq ?_ | refine Run.reg ?_ | refine Run.block ?_ | refine Run.blk ?_ | refine Run.skip ?_))
      refine Ops.stn0 (vs := wv (at_, s)) rfl rfl rfl (wv_len hs64) (wv_one _) u0 (by simp [zl65_4]) (by simp [wv]) ?_
      have hfull : List.take 0 zl65_4 ++ wv (at_, s) ++ List.drop (0 + 65) zl65_4 = wv (at_, s) := by simp [zl65_4]
      simp only [hfull]
      (repeat (first | (apply Ops.q; rfl; rfl) | (apply Ops.gyB; rfl; rfl) | (apply Ops.gnB; rfl; decide) | (apply Ops.add; rfl; rfl; (constructor <;> omega)) | (apply Ops.sub; rfl; rfl; (constructor <;> omega)) | (apply Ops.rem; rfl; rfl; omega; omega) | (apply Ops.quo; rfl; rfl; (constructor <;> omega); omega) | (apply Ops.ld; rfl; (first | exact m0 | exact m1 | exact m2 | exact m3 | exact m4 | exact m5 | exact m6); rfl) | (apply Ops.st0; rfl; rfl; rfl; rfl; (first | exact u0 | exact u1 | exact u2 | exact u3 | exact u4 | exact u5); focus (simp; done)) | refine Ops.nil ?_ | refine Segs.nil ?_ | (apply Segs.oneS; rfl) | refine Run.seq ?_ | refine Run.reg ?_ | refine Run.block ?_ | refine Run.blk ?_ | refine Run.skip ?_))
      refine Segs.lend [_, _] (.cons s0 (.cons s1 .nil)) fun F1 x1 k1 => ?_
      (repeat (first | (apply Ops.q; rfl; rfl) | (apply Ops.gyB; rfl; rfl) | (apply Ops.gnB; rfl; decide) | (apply Ops.add; rfl; rfl; (constructor <;> omega)) | (apply Ops.sub; rfl; rfl; (constructor <;> omega)) | (apply Ops.rem; rfl; rfl; omega; omega) | (apply Ops.quo; rfl; rfl; (constructor <;> omega); omega) | (apply Ops.ld; rfl; (first | exact m0 | exact m1 | exact m2 | exact m3 | exact m4 | exact m5 | exact m6); rfl) | (apply Ops.st0; rfl; rfl; rfl; rfl; (first | exact u0 | exact u1 | exact u2 | exact u3 | exact u4 | exact u5); focus (simp; done)) | refine Ops.nil ?_ | refine Segs.nil ?_ | (apply Segs.oneS; rfl) | refine Run.seq ?_ | refine Run.reg ?_ | refine Run.block ?_ | refine Run.blk ?_ | refine Run.skip ?_))
      refine Ops.ldF rfl (k1 _ _ m1) rfl ?_
      refine Ops.ldF rfl (k1 _ _ m0) rfl ?_
      refine Ops.ldnF rfl (k1 _ _ m0) (by simp [wv, bvs_len, hs64]) ?_
      simp only [List.cons_append, List.nil_append, wv, List.drop_succ_cons, List.drop_zero, Nat.zero_add, List.take_of_length_le (show (bvs s).length ≤ 64 by rw [bvs_len, hs64]; exact Nat.le_refl _)]
      (repeat (first | (apply Ops.q; rfl; rfl) | (apply Ops.gyB; rfl; rfl) | (apply Ops.gnB; rfl; decide) | (apply Ops.add; rfl; rfl; (constructor <;> omega)) | (apply Ops.sub; rfl; rfl; (constructor <;> omega)) | (apply Ops.rem; rfl; rfl; omega; omega) | (apply Ops.quo; rfl; rfl; (constructor <;> omega); omega) | (apply Ops.ld; rfl; (first | exact m0 | exact m1 | exact m2 | exact m3 | exact m4 | exact m5 | exact m6); rfl) | (apply Ops.st0; rfl; rfl; rfl; rfl; (first | exact u0 | exact u1 | exact u2 | exact u3 | exact u4 | exact u5); focus (simp; done)) | refine Ops.nil ?_ | refine Segs.nil ?_ | (apply Segs.oneS; rfl) | refine Run.seq ?_ | refine Run.reg ?_ | refine Run.block ?_ | refine Run.blk ?_ | refine Run.skip ?_))
      refine Ops.ixS rfl rfl ⟨by omega, by omega⟩ ?_
      have hkl : (kept.flatMap bvs).length = kept.length * 64 := flat_len kept (fun s hs => by rw [bvs_len, h64 s hs])
      have hat64 : at_ * 64 + 64 ≤ kept.length * 64 := by have := Nat.mul_le_mul_right 64 (show at_ + 1 ≤ kept.length by omega); omega
      refine Ops.stn0 (vs := bvs s) rfl rfl rfl (by rw [bvs_len, hs64]) (bvs_one s) u3 (by simp only [Int.toNat_natCast]; omega) (by intro h; have := congrArg List.length h; rw [bvs_len, hs64] at this; cases this) ?_
      simp only [Nat.zero_add, Int.toNat_natCast]
      rw [flat_set kept at_ s (fun s hs => by rw [bvs_len, h64 s hs]) (by rw [bvs_len, hs64]) (by omega)]
      (repeat (first | (apply Ops.q; rfl; rfl) | (apply Ops.gyB; rfl; rfl) | (apply Ops.gnB; rfl; decide) | (apply Ops.add; rfl; rfl; (constructor <;> omega)) | (apply Ops.sub; rfl; rfl; (constructor <;> omega)) | (apply Ops.rem; rfl; rfl; omega; omega) | (apply Ops.quo; rfl; rfl; (constructor <;> omega); omega) | (apply Ops.ld; rfl; (first | exact m0 | exact m1 | exact m2 | exact m3 | exact m4 | exact m5 | exact m6); rfl) | (apply Ops.st0; rfl; rfl; rfl; rfl; (first | exact u0 | exact u1 | exact u2 | exact u3 | exact u4 | exact u5); focus (simp; done)) | refine Ops.nil ?_ | refine Segs.nil ?_ | (apply Segs.oneS; rfl) | refine Run.seq ?_ | refine Run.reg ?_ | refine Run.block ?_ | refine Run.blk ?_ | refine Run.skip ?_))
      refine Run.lp (Run.again (ih (i + 1, kept.set at_ s) (by dsimp only; omega) ⟨by dsimp only; omega, by simp [hlen], DiskS.set_all h64 hs64, hks⟩) ?_ ?_)
      · exact .cons rfl (.cons rfl (.cons rfl (.cons rfl .nil)))
      · exact fun h q => take_sub (.cons s2 (.cons s2 (.cons s0 .nil))) h (fold_grp (I := OwnI _ _ _ _ _ _) (.cons s2 .nil) ⟨hxs, .inr ⟨cb, spare, rfl, hnc, hcap, rfl⟩⟩ h q)
    · have : i = D.cache.length := by omega
      subst this
      rw [List.drop_length] at hks
      simp only [DiskS.keepAll] at hks
      subst hks
      (repeat (first | (apply Ops.q; rfl; rfl) | (apply Ops.gyB; rfl; rfl) | (apply Ops.gnB; rfl; decide) | (apply Ops.add; rfl; rfl; (constructor <;> omega)) | (apply Ops.sub; rfl; rfl; (constructor <;> omega)) | (apply Ops.rem; rfl; rfl; omega; omega) | (apply Ops.quo; rfl; rfl; (constructor <;> omega); omega) | (apply Ops.ld; rfl; (first | exact m0 | exact m1 | exact m2 | exact m3 | exact m4 | exact m5 | exact m6); rfl) | (apply Ops.st0; rfl; rfl; rfl; rfl; (first | exact u0 | exact u1 | exact u2 | exact u3 | exact u4 | exact u5); focus (simp; done)) | refine Ops.nil ?_ | refine Segs.nil ?_ | (apply Segs.oneS; rfl) | refine Run.seq ?_ | refine Run.reg ?_ | refine Run.block ?_ | refine Run.blk ?_ | refine Run.skip ?_))
      refine Run.exit rfl ?_
      (repeat (first | (apply Ops.q; rfl; rfl) | (apply Ops.gyB; rfl; rfl) | (apply Ops.gnB; rfl; decide) | (apply Ops.add; rfl; rfl; (constructor <;> omega)) | (apply Ops.sub; rfl; rfl; (constructor <;> omega)) | (apply Ops.rem; rfl; rfl; omega; omega) | (apply Ops.quo; rfl; rfl; (constructor <;> omega); omega) | (apply Ops.ld; rfl; (first | exact m0 | exact m1 | exact m2 | exact m3 | exact m4 | exact m5 | exact m6); rfl) | (apply Ops.st0; rfl; rfl; rfl; rfl; (first | exact u0 | exact u1 | exact u2 | exact u3 | exact u4 | exact u5); focus (simp; done)) | refine Ops.nil ?_ | refine Segs.nil ?_ | (apply Segs.oneS; rfl) | refine Run.seq ?_ | refine Run.reg ?_ | refine Run.block ?_ | refine Run.blk ?_ | refine Run.skip ?_))
      refine Run.ret1 Try.func31 rfl rfl (fun h q => take_sub (.cons s0 .nil) h (fold_grp (I := DiskI d { D with kept := DiskS.keepAll D.cache D.kept, cache := [] }) (.cons s1 (.cons s1 (.cons s0 .nil))) ⟨kb, none, 0, ⟨DiskS.keepAll_all _ _ (fun e he => (hok.cache e he).2) hok.kept, (fun e he => by cases he), (by simp only; rw [DiskS.keepAll_len]; exact hok.size), hok.keeps, by simp, hok.fate⟩, ?_⟩ h (own_new (s := 65) (T := 76) h q))) ⟨rfl, rfl⟩
      simp only [DiskS.keepAll_len]; rfl
  · have hst : D.step.1 = false := by simpa using hst
    rw [hst]
    refine Run.condT rfl ?_
    (repeat (first | (apply Ops.q; rfl; rfl) | (apply Ops.gyB; rfl; rfl) | (apply Ops.gnB; rfl; decide) | (apply Ops.add; rfl; rfl; (constructor <;> omega)) | (apply Ops.sub; rfl; rfl; (constructor <;> omega)) | (apply Ops.rem; rfl; rfl; omega; omega) | (apply Ops.quo; rfl; rfl; (constructor <;> omega); omega) | (apply Ops.ld; rfl; (first | exact m0 | exact m1 | exact m2 | exact m3 | exact m4 | exact m5 | exact m6); rfl) | (apply Ops.st0; rfl; rfl; rfl; rfl; (first | exact u0 | exact u1 | exact u2 | exact u3 | exact u4 | exact u5); focus (simp; done)) | refine Ops.nil ?_ | refine Segs.nil ?_ | (apply Segs.oneS; rfl) | refine Run.seq ?_ | refine Run.reg ?_ | refine Run.block ?_ | refine Run.blk ?_ | refine Run.skip ?_))
    exact Run.ret1 Try.func31 rfl rfl (fun h q => q) ⟨by simp, rfl⟩
end Eng
end Go.Proofs.Ytbhlolmglieehaa

/- The disk: reads, and a new one. -/
set_option linter.unusedSimpArgs false
set_option linter.unusedVariables false
namespace Go.Proofs.Ytbhlolmglieehaa

theorem lastOf_append (a : Nat) (xs ys : List (Nat × Bytes)) : DiskS.lastOf a (xs ++ ys) = (DiskS.lastOf a ys).or (DiskS.lastOf a xs) := by
  induction xs with
  | nil => simp [DiskS.lastOf]
  | cons e xs ih =>
    obtain ⟨b, s⟩ := e
    simp only [List.cons_append, DiskS.lastOf, ih]
    cases DiskS.lastOf a ys with
    | some y => simp
    | none => simp

theorem lastOf_mem {a : Nat} {xs : List (Nat × Bytes)} {s : Bytes} (h : DiskS.lastOf a xs = some s) : (a, s) ∈ xs := by
  induction xs with
  | nil => cases h
  | cons e xs ih =>
    obtain ⟨b, x⟩ := e
    simp only [DiskS.lastOf] at h
    split at h
    · rename_i y hy; cases h; exact .tail _ (ih hy)
    · split at h
      · rename_i hb; cases h; subst hb; exact .head _
      · cases h

namespace DiskS
theorem read_len {D : DiskS} (h : D.Ok) (a : Int) : (D.read a).1.length = 64 := by
  unfold DiskS.read
  split
  · simp
  · split
    · simp
    · rename_i _ hc
      simp only
      cases hl : lastOf a.toNat D.cache with
      | some s => exact (h.cache _ (lastOf_mem hl)).2
      | none =>
        have hlt : a.toNat < D.kept.length := by omega
        simp only [Option.getD_none]
        rw [List.getD_eq_getElem?_getD, List.getElem?_eq_getElem hlt]
        exact h.kept _ (List.getElem_mem hlt)
end DiskS

namespace Eng
attribute [local irreducible] Ops Segs Run Spec

theorem sector_agg : aggOf Try.prog 57 = some true := by kernel_rfl
theorem sector_info : Try.prog.info? 57 = some Try.t57 := by kernel_rfl
theorem zl64_bvs : zl64_intu80 = bvs (List.replicate 64 0) := rfl

set_option maxHeartbeats 400000 in
theorem disk_Read (d : Nat) (D : DiskS) (at_ : Int) (F : Hp) :
    Spec Try.prog 21 [.pointer (some ⟨d, 0, none⟩), .int .i64 at_].toArray F [DiskP d D] fun v H => v = .tuple [.agg (bvs (D.read at_).1).toArray, .int .i64 (D.read at_).2].toArray ∧ H = [DiskP d D] := by
  refine Spec.enter (n := 61) Try.func21 ok_disk_Disk_Read rfl (by simp) ?_
  unfold ec_disk_Disk_Read
  simp only [argFr, Nat.reduceAdd]
  refine Run.open_ s0 fun G ⟨kb, ca, cc, hok, hG⟩ => ?_
  subst hG
  simp only [List.cons_append, List.nil_append]
  have hfew := hok.few
  (repeat (first | (apply Ops.q; rfl; rfl) | (apply Ops.gyB; rfl; rfl) | (apply Ops.gnB; rfl; decide) | (apply Ops.add; rfl; rfl; (constructor <;> omega)) | (apply Ops.sub; rfl; rfl; (constructor <;> omega)) | (apply Ops.rem; rfl; rfl; omega; omega) | (apply Ops.quo; rfl; rfl; (constructor <;> omega); omega) | (apply Ops.ld; rfl; (first | exact m0 | exact m1 | exact m2 | exact m3 | exact m4 | exact m5 | exact m6); rfl) | (apply Ops.st0; rfl; rfl; rfl; rfl; (first | exact u0 | exact u1 | exact u2 | exact u3 | exact u4 | exact u5); focus (simp; done)) | refine Ops.nil ?_ | refine Segs.nil ?_ | (apply Segs.oneS; rfl) | refine Run.seq ?_ | refine Run.reg ?_ | refine Run.block ?_ | refine Run.blk ?_ | refine Run.skip ?_))
  refine Ops.alloc fun b4 => ?_
  (repeat (first | (apply Ops.q; rfl; rfl) | (apply Ops.gyB; rfl; rfl) | (apply Ops.gnB; rfl; decide) | (apply Ops.add; rfl; rfl; (constructor <;> omega)) | (apply Ops.sub; rfl; rfl; (constructor <;> omega)) | (apply Ops.rem; rfl; rfl; omega; omega) | (apply Ops.quo; rfl; rfl; (constructor <;> omega); omega) | (apply Ops.ld; rfl; (first | exact m0 | exact m1 | exact m2 | exact m3 | exact m4 | exact m5 | exact m6); rfl) | (apply Ops.st0; rfl; rfl; rfl; rfl; (first | exact u0 | exact u1 | exact u2 | exact u3 | exact u4 | exact u5); focus (simp; done)) | refine Ops.nil ?_ | refine Segs.nil ?_ | (apply Segs.oneS; rfl) | refine Run.seq ?_ | refine Run.reg ?_ | refine Run.block ?_ | refine Run.blk ?_ | refine Run.skip ?_))
  have hfold : ∀ (L : List Value), ∀ h, seps [.pt b4 (.cells L.toArray 57 (0, 0)), .pt d (.cells [.slice (some ⟨kb, 0, none⟩) D.kept.length D.kept.length, .slice ca D.cache.length cc, .bool D.down, .int .i64 D.fate, .int .u64 D.keeps, .int .i64 D.steps].toArray 53 (0, 0)),
      .pt kb (.cells (D.kept.flatMap bvs).toArray 57 (0, 0)), OwnS ca D.cache.length cc 65 76 (D.cache.flatMap wv)] h → seps [DiskP d D] h :=
    fun L h q => take_sub (.cons s0 .nil) h (fold_grp (.cons s1 (.cons s1 (.cons s1 .nil))) ⟨kb, ca, cc, hok, rfl⟩ h q)
  have hz : (zl64_intu80.drop 0).take 64 = bvs (List.replicate 64 0) := rfl
  have hzs : ∀ L : List Value, L.length = 64 → List.take 0 L ++ zl64_intu80 ++ List.drop (0 + 64) L = zl64_intu80 := by intro L h; simp [List.drop_eq_nil_of_le (show L.length ≤ 64 by omega)]
  by_cases hd : D.down = true
  · have hm : D.read at_ = (List.replicate 64 0, 3) := by unfold DiskS.read; rw [if_pos hd]
    rw [hm]
    refine Run.condT (by rw [← hd]; rfl) ?_
    (repeat (first | (apply Ops.q; rfl; rfl) | (apply Ops.gyB; rfl; rfl) | (apply Ops.gnB; rfl; decide) | (apply Ops.add; rfl; rfl; (constructor <;> omega)) | (apply Ops.sub; rfl; rfl; (constructor <;> omega)) | (apply Ops.rem; rfl; rfl; omega; omega) | (apply Ops.quo; rfl; rfl; (constructor <;> omega); omega) | (apply Ops.ld; rfl; (first | exact m0 | exact m1 | exact m2 | exact m3 | exact m4 | exact m5 | exact m6); rfl) | (apply Ops.st0; rfl; rfl; rfl; rfl; (first | exact u0 | exact u1 | exact u2 | exact u3 | exact u4 | exact u5); focus (simp; done)) | refine Ops.nil ?_ | refine Segs.nil ?_ | (apply Segs.oneS; rfl) | refine Run.seq ?_ | refine Run.reg ?_ | refine Run.block ?_ | refine Run.blk ?_ | refine Run.skip ?_))
    refine Ops.bld zl64_intu80 rfl rfl ?_
    refine Ops.stn0 (vs := zl64_intu80) rfl rfl rfl rfl (by rw [zl64_bvs]; exact bvs_one _) u0 (by simp [zl64_intu80]) (by simp [zl64_intu80]) ?_
    rw [hzs _ rfl]
    (repeat (first | (apply Ops.q; rfl; rfl) | (apply Ops.gyB; rfl; rfl) | (apply Ops.gnB; rfl; decide) | (apply Ops.add; rfl; rfl; (constructor <;> omega)) | (apply Ops.sub; rfl; rfl; (constructor <;> omega)) | (apply Ops.rem; rfl; rfl; omega; omega) | (apply Ops.quo; rfl; rfl; (constructor <;> omega); omega) | (apply Ops.ld; rfl; (first | exact m0 | exact m1 | exact m2 | exact m3 | exact m4 | exact m5 | exact m6); rfl) | (apply Ops.st0; rfl; rfl; rfl; rfl; (first | exact u0 | exact u1 | exact u2 | exact u3 | exact u4 | exact u5); focus (simp; done)) | refine Ops.nil ?_ | refine Segs.nil ?_ | (apply Segs.oneS; rfl) | refine Run.seq ?_ | refine Run.reg ?_ | refine Run.block ?_ | refine Run.blk ?_ | refine Run.skip ?_))
    exact Run.ret Try.func21 (rs := [.cell 4 57, .tmp 5]) rfl (.celln rfl sector_agg sector_info (.inl m0) (Nat.le_refl 64) (.tmp rfl .nil)) (hfold _) ⟨rfl, rfl⟩
  refine Run.condF (by have : D.down = false := by simpa using hd
                       rw [← this]; rfl) ?_
  (repeat (first | (apply Ops.q; rfl; rfl) | (apply Ops.gyB; rfl; rfl) | (apply Ops.gnB; rfl; decide) | (apply Ops.add; rfl; rfl; (constructor <;> omega)) | (apply Ops.sub; rfl; rfl; (constructor <;> omega)) | (apply Ops.rem; rfl; rfl; omega; omega) | (apply Ops.quo; rfl; rfl; (constructor <;> omega); omega) | (apply Ops.ld; rfl; (first | exact m0 | exact m1 | exact m2 | exact m3 | exact m4 | exact m5 | exact m6); rfl) | (apply Ops.st0; rfl; rfl; rfl; rfl; (first | exact u0 | exact u1 | exact u2 | exact u3 | exact u4 | exact u5); focus (simp; done)) | refine Ops.nil ?_ | refine Segs.nil ?_ | (apply Segs.oneS; rfl) | refine Run.seq ?_ | refine Run.reg ?_ | refine Run.block ?_ | refine Run.blk ?_ | refine Run.skip ?_))
  have bad : ∀ (hb : at_ < 0 ∨ (D.kept.length : Int) ≤ at_), D.read at_ = (List.replicate 64 0, 2) := fun hb => by unfold DiskS.read; rw [if_neg hd, if_pos hb]
  by_cases h1 : at_ < 0
  · have e1 : decide (at_ < 0) = true := by simpa using h1
    simp only [e1]
    (repeat (first | (apply Ops.q; rfl; rfl) | (apply Ops.gyB; rfl; rfl) | (apply Ops.gnB; rfl; decide) | (apply Ops.add; rfl; rfl; (constructor <;> omega)) | (apply Ops.sub; rfl; rfl; (constructor <;> omega)) | (apply Ops.rem; rfl; rfl; omega; omega) | (apply Ops.quo; rfl; rfl; (constructor <;> omega); omega) | (apply Ops.ld; rfl; (first | exact m0 | exact m1 | exact m2 | exact m3 | exact m4 | exact m5 | exact m6); rfl) | (apply Ops.st0; rfl; rfl; rfl; rfl; (first | exact u0 | exact u1 | exact u2 | exact u3 | exact u4 | exact u5); focus (simp; done)) | refine Ops.nil ?_ | refine Segs.nil ?_ | (apply Segs.oneS; rfl) | refine Run.seq ?_ | refine Run.reg ?_ | refine Run.block ?_ | refine Run.blk ?_ | refine Run.skip ?_))
    refine Run.condT rfl ?_
    rw [bad (.inl h1)]
    (repeat (first | (apply Ops.q; rfl; rfl) | (apply Ops.gyB; rfl; rfl) | (apply Ops.gnB; rfl; decide) | (apply Ops.add; rfl; rfl; (constructor <;> omega)) | (apply Ops.sub; rfl; rfl; (constructor <;> omega)) | (apply Ops.rem; rfl; rfl; omega; omega) | (apply Ops.quo; rfl; rfl; (constructor <;> omega); omega) | (apply Ops.ld; rfl; (first | exact m0 | exact m1 | exact m2 | exact m3 | exact m4 | exact m5 | exact m6); rfl) | (apply Ops.st0; rfl; rfl; rfl; rfl; (first | exact u0 | exact u1 | exact u2 | exact u3 | exact u4 | exact u5); focus (simp; done)) | refine Ops.nil ?_ | refine Segs.nil ?_ | (apply Segs.oneS; rfl) | refine Run.seq ?_ | refine Run.reg ?_ | refine Run.block ?_ | refine Run.blk ?_ | refine Run.skip ?_))
    refine Ops.bld zl64_intu80 rfl rfl ?_
    refine Ops.stn0 (vs := zl64_intu80) rfl rfl rfl rfl (by rw [zl64_bvs]; exact bvs_one _) u0 (by simp [zl64_intu80]) (by simp [zl64_intu80]) ?_
    rw [hzs _ rfl]
    (repeat (first | (apply Ops.q; rfl; rfl) | (apply Ops.gyB; rfl; rfl) | (apply Ops.gnB; rfl; decide) | (apply Ops.add; rfl; rfl; (constructor <;> omega)) | (apply Ops.sub; rfl; rfl; (constructor <;> omega)) | (apply Ops.rem; rfl; rfl; omega; omega) | (apply Ops.quo; rfl; rfl; (constructor <;> omega); omega) | (apply Ops.ld; rfl; (first | exact m0 | exact m1 | exact m2 | exact m3 | exact m4 | exact m5 | exact m6); rfl) | (apply Ops.st0; rfl; rfl; rfl; rfl; (first | exact u0 | exact u1 | exact u2 | exact u3 | exact u4 | exact u5); focus (simp; done)) | refine Ops.nil ?_ | refine Segs.nil ?_ | (apply Segs.oneS; rfl) | refine Run.seq ?_ | refine Run.reg ?_ | refine Run.block ?_ | refine Run.blk ?_ | refine Run.skip ?_))
    exact Run.ret Try.func21 (rs := [.cell 4 57, .tmp 5]) rfl (.celln rfl sector_agg sector_info (.inl m0) (Nat.le_refl 64) (.tmp rfl .nil)) (hfold _) ⟨rfl, rfl⟩
  have e1 : decide (at_ < 0) = false := by simpa using h1
  simp only [e1]
  (repeat (first | (apply Ops.q; rfl; rfl) | (apply Ops.gyB; rfl; rfl) | (apply Ops.gnB; rfl; decide) | (apply Ops.add; rfl; rfl; (constructor <;> omega)) | (apply Ops.sub; rfl; rfl; (constructor <;> omega)) | (apply Ops.rem; rfl; rfl; omega; omega) | (apply Ops.quo; rfl; rfl; (constructor <;> omega); omega) | (apply Ops.ld; rfl; (first | exact m0 | exact m1 | exact m2 | exact m3 | exact m4 | exact m5 | exact m6); rfl) | (apply Ops.st0; rfl; rfl; rfl; rfl; (first | exact u0 | exact u1 | exact u2 | exact u3 | exact u4 | exact u5); focus (simp; done)) | refine Ops.nil ?_ | refine Segs.nil ?_ | (apply Segs.oneS; rfl) | refine Run.seq ?_ | refine Run.reg ?_ | refine Run.block ?_ | refine Run.blk ?_ | refine Run.skip ?_))
  refine Run.condD rfl (fun h2 => ?_) (fun h2 => ?_)
  · rw [bad (.inr h2)]
    (repeat (first | (apply Ops.q; rfl; rfl) | (apply Ops.gyB; rfl; rfl) | (apply Ops.gnB; rfl; decide) | (apply Ops.add; rfl; rfl; (constructor <;> omega)) | (apply Ops.sub; rfl; rfl; (constructor <;> omega)) | (apply Ops.rem; rfl; rfl; omega; omega) | (apply Ops.quo; rfl; rfl; (constructor <;> omega); omega) | (apply Ops.ld; rfl; (first | exact m0 | exact m1 | exact m2 | exact m3 | exact m4 | exact m5 | exact m6); rfl) | (apply Ops.st0; rfl; rfl; rfl; rfl; (first | exact u0 | exact u1 | exact u2 | exact u3 | exact u4 | exact u5); focus (simp; done)) | refine Ops.nil ?_ | refine Segs.nil ?_ | (apply Segs.oneS; rfl) | refine Run.seq ?_ | refine Run.reg ?_ | refine Run.block ?_ | refine Run.blk ?_ | refine Run.skip ?_))
    refine Ops.bld zl64_intu80 rfl rfl ?_
    refine Ops.stn0 (vs := zl64_intu80) rfl rfl rfl rfl (by rw [zl64_bvs]; exact bvs_one _) u0 (by simp [zl64_intu80]) (by simp [zl64_intu80]) ?_
    rw [hzs _ rfl]
    (repeat (first | (apply Ops.q; rfl; rfl) | (apply Ops.gyB; rfl; rfl) | (apply Ops.gnB; rfl; decide) | (apply Ops.add; rfl; rfl; (constructor <;> omega)) | (apply Ops.sub; rfl; rfl; (constructor <;> omega)) | (apply Ops.rem; rfl; rfl; omega; omega) | (apply Ops.quo; rfl; rfl; (constructor <;> omega); omega) | (apply Ops.ld; rfl; (first | exact m0 | exact m1 | exact m2 | exact m3 | exact m4 | exact m5 | exact m6); rfl) | (apply Ops.st0; rfl; rfl; rfl; rfl; (first | exact u0 | exact u1 | exact u2 | exact u3 | exact u4 | exact u5); focus (simp; done)) | refine Ops.nil ?_ | refine Segs.nil ?_ | (apply Segs.oneS; rfl) | refine Run.seq ?_ | refine Run.reg ?_ | refine Run.block ?_ | refine Run.blk ?_ | refine Run.skip ?_))
    exact Run.ret Try.func21 (rs := [.cell 4 57, .tmp 5]) rfl (.celln rfl sector_agg sector_info (.inl m0) (Nat.le_refl 64) (.tmp rfl .nil)) (hfold _) ⟨rfl, rfl⟩
  have good : D.read at_ = ((DiskS.lastOf at_.toNat D.cache).getD (D.kept.getD at_.toNat []), 0) := by unfold DiskS.read; rw [if_neg hd, if_neg (by omega)]
  rw [good]
  (repeat (first | (apply Ops.q; rfl; rfl) | (apply Ops.gyB; rfl; rfl) | (apply Ops.gnB; rfl; decide) | (apply Ops.add; rfl; rfl; (constructor <;> omega)) | (apply Ops.sub; rfl; rfl; (constructor <;> omega)) | (apply Ops.rem; rfl; rfl; omega; omega) | (apply Ops.quo; rfl; rfl; (constructor <;> omega); omega) | (apply Ops.ld; rfl; (first | exact m0 | exact m1 | exact m2 | exact m3 | exact m4 | exact m5 | exact m6); rfl) | (apply Ops.st0; rfl; rfl; rfl; rfl; (first | exact u0 | exact u1 | exact u2 | exact u3 | exact u4 | exact u5); focus (simp; done)) | refine Ops.nil ?_ | refine Segs.nil ?_ | (apply Segs.oneS; rfl) | refine Run.seq ?_ | refine Run.reg ?_ | refine Run.block ?_ | refine Run.blk ?_ | refine Run.skip ?_))
  refine Run.loopI (ι := Nat) (fun k => k) (fun k => k ≤ D.cache.length ∧ DiskS.lastOf at_.toNat (D.cache.drop k) = none)
    (fun k => [(6, .int .i64 ((k : Int) - 1)), (5, .int .i64 0), (4, .pointer (some ⟨b4, 0, none⟩)), (0, .pointer (some ⟨d, 0, none⟩)), (1, .int .i64 at_)])
    (fun _ => [.pt b4 (.cells zl64_intu80.toArray 57 (0, 0)), .pt d (.cells [.slice (some ⟨kb, 0, none⟩) D.kept.length D.kept.length, .slice ca D.cache.length cc, .bool D.down, .int .i64 D.fate, .int .u64 D.keeps, .int .i64 D.steps].toArray 53 (0, 0)),
      .pt kb (.cells (D.kept.flatMap bvs).toArray 57 (0, 0)), OwnS ca D.cache.length cc 65 76 (D.cache.flatMap wv)])
    D.cache.length ⟨Nat.le_refl _, by simp [DiskS.lastOf]⟩ (.cons rfl (.cons rfl (.cons rfl (.cons rfl (.cons rfl .nil))))) (fun _ h => h) ?_
  rintro k ⟨hk, hnone⟩ ih
  dsimp only at ih ⊢
  unfold ec_disk_Disk_Read_L0
  (repeat (first | (apply Ops.q; rfl; rfl) | (apply Ops.gyB; rfl; rfl) | (apply Ops.gnB; rfl; decide) | (apply Ops.add; rfl; rfl; (constructor <;> omega)) | (apply Ops.sub; rfl; rfl; (constructor <;> omega)) | (apply Ops.rem; rfl; rfl; omega; omega) | (apply Ops.quo; rfl; rfl; (constructor <;> omega); omega) | (apply Ops.ld; rfl; (first | exact m0 | exact m1 | exact m2 | exact m3 | exact m4 | exact m5 | exact m6); rfl) | (apply Ops.st0; rfl; rfl; rfl; rfl; (first | exact u0 | exact u1 | exact u2 | exact u3 | exact u4 | exact u5); focus (simp; done)) | refine Ops.nil ?_ | refine Segs.nil ?_ | (apply Segs.oneS; rfl) | refine Run.seq ?_ | refine Run.reg ?_ | refine Run.block ?_ | refine Run.blk ?_ | refine Run.skip ?_))
  refine Run.condD rfl (fun hge => ?_) (fun hlt => ?_)
  · refine Run.open_ s3 fun G ⟨hxs, hG⟩ => ?_
    rcases hG with ⟨_, hn, _, _⟩ | ⟨cb, spare, hca, hnc, hcap, hG⟩
    · omega
    subst hca; subst hG
    simp only [List.cons_append, List.nil_append]
    have hk1 : k - 1 < D.cache.length := by omega
    have hel : D.cache[k - 1]? = some D.cache[k - 1] := List.getElem?_eq_getElem hk1
    have hwl : ∀ e ∈ D.cache, (wv e).length = 65 := fun e he => wv_len (hok.cache e he).2
    have hget := flat_get D.cache spare (k - 1) _ hwl hel
    obtain ⟨hat, hs64⟩ := hok.cache _ (List.getElem_mem hk1)
    have hdrop : D.cache.drop (k - 1) = D.cache[k - 1] :: D.cache.drop k := by rw [List.drop_eq_getElem_cons hk1]; congr 2; omega
    have hsplit : D.cache = D.cache.take (k - 1) ++ D.cache.drop (k - 1) := (List.take_append_drop _ _).symm
    generalize D.cache[k - 1] = e at *
    obtain ⟨a0, s⟩ := e
    dsimp only at hat hs64
    have ek : ((k : Int) - 1).toNat = k - 1 := by omega
    have hlen : (List.flatMap wv D.cache ++ spare).length ≥ (k - 1) * 65 + 65 := by
      rw [List.length_append, hxs]
      have := Nat.mul_le_mul_right 65 (show k - 1 + 1 ≤ D.cache.length by omega)
      omega
    have hget0 : (List.flatMap wv D.cache ++ spare)[(k - 1) * 65]? = some (.int .i64 a0) := by
      have := congrArg (fun l => l[0]?) hget
      simpa [List.getElem?_take, List.getElem?_drop, wv] using this
    have hget1 : ((List.flatMap wv D.cache ++ spare).drop ((k - 1) * 65 + 1)).take 64 = bvs s := by
      have := congrArg (fun l => l.drop 1) hget
      simp only [List.drop_take, List.drop_drop] at this
      simpa [wv] using this
    (repeat (first | (apply Ops.q; rfl; rfl) | (apply Ops.gyB; rfl; rfl) | (apply Ops.gnB; rfl; decide) | (apply Ops.add; rfl; rfl; (constructor <;> omega)) | (apply Ops.sub; rfl; rfl; (constructor <;> omega)) | (apply Ops.rem; rfl; rfl; omega; omega) | (apply Ops.quo; rfl; rfl; (constructor <;> omega); omega) | (apply Ops.ld; rfl; (first | exact m0 | exact m1 | exact m2 | exact m3 | exact m4 | exact m5 | exact m6); rfl) | (apply Ops.st0; rfl; rfl; rfl; rfl; (first | exact u0 | exact u1 | exact u2 | exact u3 | exact u4 | exact u5); focus (simp; done)) | refine Ops.nil ?_ | refine Segs.nil ?_ | (apply Segs.oneS; rfl) | refine Run.seq ?_ | refine Run.reg ?_ | refine Run.block ?_ | refine Run.blk ?_ | refine Run.skip ?_))
    refine Ops.ixS rfl rfl ⟨by omega, by omega⟩ ?_
    simp only [ek]
    (repeat (first | (apply Ops.q; rfl; rfl) | (apply Ops.gyB; rfl; rfl) | (apply Ops.gnB; rfl; decide) | (apply Ops.add; rfl; rfl; (constructor <;> omega)) | (apply Ops.sub; rfl; rfl; (constructor <;> omega)) | (apply Ops.rem; rfl; rfl; omega; omega) | (apply Ops.quo; rfl; rfl; (constructor <;> omega); omega) | (apply Ops.ld; rfl; (first | exact m0 | exact m1 | exact m2 | exact m3 | exact m4 | exact m5 | exact m6); rfl) | (apply Ops.st0; rfl; rfl; rfl; rfl; (first | exact u0 | exact u1 | exact u2 | exact u3 | exact u4 | exact u5); focus (simp; done)) | refine Ops.nil ?_ | refine Segs.nil ?_ | (apply Segs.oneS; rfl) | refine Run.seq ?_ | refine Run.reg ?_ | refine Run.block ?_ | refine Run.blk ?_ | refine Run.skip ?_))
    refine Ops.ld (v := .int .i64 a0) rfl m0 (by rw [Nat.add_zero, Nat.zero_add]; exact hget0) ?_
    (repeat (first | (apply Ops.q; rfl; rfl) | (apply Ops.gyB; rfl; rfl) | (apply Ops.gnB; rfl; decide) | (apply Ops.add; rfl; rfl; (constructor <;> omega)) | (apply Ops.sub; rfl; rfl; (constructor <;> omega)) | (apply Ops.rem; rfl; rfl; omega; omega) | (apply Ops.quo; rfl; rfl; (constructor <;> omega); omega) | (apply Ops.ld; rfl; (first | exact m0 | exact m1 | exact m2 | exact m3 | exact m4 | exact m5 | exact m6); rfl) | (apply Ops.st0; rfl; rfl; rfl; rfl; (first | exact u0 | exact u1 | exact u2 | exact u3 | exact u4 | exact u5); focus (simp; done)) | refine Ops.nil ?_ | refine Segs.nil ?_ | (apply Segs.oneS; rfl) | refine Run.seq ?_ | refine Run.reg ?_ | refine Run.block ?_ | refine Run.blk ?_ | refine Run.skip ?_))
    refine Run.condD rfl (fun he => ?_) (fun he => ?_)
    · have hl : DiskS.lastOf at_.toNat D.cache = some s := by
        rw [hsplit, lastOf_append, hdrop]
        simp only [DiskS.lastOf, hnone]
        rw [if_pos (by omega)]; rfl
      rw [hl]
      (repeat (first | (apply Ops.q; rfl; rfl) | (apply Ops.gyB; rfl; rfl) | (apply Ops.gnB; rfl; decide) | (apply Ops.add; rfl; rfl; (constructor <;> omega)) | (apply Ops.sub; rfl; rfl; (constructor <;> omega)) | (apply Ops.rem; rfl; rfl; omega; omega) | (apply Ops.quo; rfl; rfl; (constructor <;> omega); omega) | (apply Ops.ld; rfl; (first | exact m0 | exact m1 | exact m2 | exact m3 | exact m4 | exact m5 | exact m6); rfl) | (apply Ops.st0; rfl; rfl; rfl; rfl; (first | exact u0 | exact u1 | exact u2 | exact u3 | exact u4 | exact u5); focus (simp; done)) | refine Ops.nil ?_ | refine Segs.nil ?_ | (apply Segs.oneS; rfl) | refine Run.seq ?_ | refine Run.reg ?_ | refine Run.block ?_ | refine Run.blk ?_ | refine Run.skip ?_))
      refine Ops.ixS rfl rfl ⟨by omega, by omega⟩ ?_
      simp only [ek]
      (repeat (first | (apply Ops.q; rfl; rfl) | (apply Ops.gyB; rfl; rfl) | (apply Ops.gnB; rfl; decide) | (apply Ops.add; rfl; rfl; (constructor <;> omega)) | (apply Ops.sub; rfl; rfl; (constructor <;> omega)) | (apply Ops.rem; rfl; rfl; omega; omega) | (apply Ops.quo; rfl; rfl; (constructor <;> omega); omega) | (apply Ops.ld; rfl; (first | exact m0 | exact m1 | exact m2 | exact m3 | exact m4 | exact m5 | exact m6); rfl) | (apply Ops.st0; rfl; rfl; rfl; rfl; (first | exact u0 | exact u1 | exact u2 | exact u3 | exact u4 | exact u5); focus (simp; done)) | refine Ops.nil ?_ | refine Segs.nil ?_ | (apply Segs.oneS; rfl) | refine Run.seq ?_ | refine Run.reg ?_ | refine Run.block ?_ | refine Run.blk ?_ | refine Run.skip ?_))
      refine Ops.ldn rfl m0 (by rw [Nat.zero_add]; omega) ?_
      simp only [Nat.zero_add, hget1]
      refine Ops.stn0 (vs := bvs s) rfl rfl rfl (by rw [bvs_len, hs64]) (bvs_one s) u1 (by simp [zl64_intu80]) (by intro h; have := congrArg List.length h; rw [bvs_len, hs64] at this; cases this) ?_
      have hfull : List.take 0 zl64_intu80 ++ bvs s ++ List.drop (0 + 64) zl64_intu80 = bvs s := by simp [zl64_intu80]
      rw [hfull]
      (repeat (first | (apply Ops.q; rfl; rfl) | (apply Ops.gyB; rfl; rfl) | (apply Ops.gnB; rfl; decide) | (apply Ops.add; rfl; rfl; (constructor <;> omega)) | (apply Ops.sub; rfl; rfl; (constructor <;> omega)) | (apply Ops.rem; rfl; rfl; omega; omega) | (apply Ops.quo; rfl; rfl; (constructor <;> omega); omega) | (apply Ops.ld; rfl; (first | exact m0 | exact m1 | exact m2 | exact m3 | exact m4 | exact m5 | exact m6); rfl) | (apply Ops.st0; rfl; rfl; rfl; rfl; (first | exact u0 | exact u1 | exact u2 | exact u3 | exact u4 | exact u5); focus (simp; done)) | refine Ops.nil ?_ | refine Segs.nil ?_ | (apply Segs.oneS; rfl) | refine Run.seq ?_ | refine Run.reg ?_ | refine Run.block ?_ | refine Run.blk ?_ | refine Run.skip ?_))
      refine Run.ret Try.func21 (rs := [.cell 4 57, .tmp 5]) rfl (.celln rfl sector_agg sector_info (.inl m1) (by rw [bvs_len, hs64]; exact Nat.le_refl _) (.tmp rfl .nil)) (fun h q => hfold _ h (take_sub (.cons s1 (.cons s1 (.cons s1 (.cons s0 .nil)))) h (fold_grp (I := OwnI _ _ _ _ _ _) (.cons s0 .nil) ⟨hxs, .inr ⟨cb, spare, rfl, hnc, hcap, rfl⟩⟩ h q))) ⟨?_, rfl⟩
      have : (List.drop 0 (bvs s)).take Try.t57.size = bvs s := by rw [List.drop_zero]; exact List.take_of_length_le (by rw [bvs_len, hs64]; exact Nat.le_refl _)
      rw [this]; rfl
    · (repeat (first | (apply Ops.q; rfl; rfl) | (apply Ops.gyB; rfl; rfl) | (apply Ops.gnB; rfl; decide) | (apply Ops.add; rfl; rfl; (constructor <;> omega)) | (apply Ops.sub; rfl; rfl; (constructor <;> omega)) | (apply Ops.rem; rfl; rfl; omega; omega) | (apply Ops.quo; rfl; rfl; (constructor <;> omega); omega) | (apply Ops.ld; rfl; (first | exact m0 | exact m1 | exact m2 | exact m3 | exact m4 | exact m5 | exact m6); rfl) | (apply Ops.st0; rfl; rfl; rfl; rfl; (first | exact u0 | exact u1 | exact u2 | exact u3 | exact u4 | exact u5); focus (simp; done)) | refine Ops.nil ?_ | refine Segs.nil ?_ | (apply Segs.oneS; rfl) | refine Run.seq ?_ | refine Run.reg ?_ | refine Run.block ?_ | refine Run.blk ?_ | refine Run.skip ?_))
      refine Run.lp (Run.again (ih (k - 1) (by omega) ⟨by omega, ?_⟩) (.cons (by rw [show ((k - 1 : Nat) : Int) - 1 = (k : Int) - 1 - 1 by omega]; rfl) (.cons rfl (.cons rfl (.cons rfl (.cons rfl .nil))))) ?_)
      · rw [hdrop]
        simp only [DiskS.lastOf, hnone]
        rw [if_neg (by omega)]
      · exact fun h q => take_sub (.cons s1 (.cons s1 (.cons s1 (.cons s0 .nil)))) h (fold_grp (I := OwnI _ _ _ _ _ _) (.cons s0 .nil) ⟨hxs, .inr ⟨cb, spare, rfl, hnc, hcap, rfl⟩⟩ h q)
  · have : k = 0 := by omega
    subst this
    rw [List.drop_zero] at hnone
    rw [hnone]
    refine Run.exit rfl ?_
    have hat : at_.toNat < D.kept.length := by omega
    have hel : D.kept[at_.toNat]? = some D.kept[at_.toNat] := List.getElem?_eq_getElem hat
    have hget := flat_get D.kept [] at_.toNat _ (fun s hs => by rw [bvs_len, hok.kept s hs]) hel
    have hs64 := hok.kept _ (List.getElem_mem hat)
    have hgd : D.kept.getD at_.toNat [] = D.kept[at_.toNat] := by rw [List.getD_eq_getElem?_getD, hel]; rfl
    simp only [Option.getD_none, hgd]
    generalize D.kept[at_.toNat] = s at *
    have hkl : (D.kept.flatMap bvs).length = D.kept.length * 64 := flat_len D.kept (fun s hs => by rw [bvs_len, hok.kept s hs])
    have hat64 : at_.toNat * 64 + 64 ≤ D.kept.length * 64 := by have := Nat.mul_le_mul_right 64 (show at_.toNat + 1 ≤ D.kept.length by omega); omega
    rw [List.append_nil] at hget
    (repeat (first | (apply Ops.q; rfl; rfl) | (apply Ops.gyB; rfl; rfl) | (apply Ops.gnB; rfl; decide) | (apply Ops.add; rfl; rfl; (constructor <;> omega)) | (apply Ops.sub; rfl; rfl; (constructor <;> omega)) | (apply Ops.rem; rfl; rfl; omega; omega) | (apply Ops.quo; rfl; rfl; (constructor <;> omega); omega) | (apply Ops.ld; rfl; (first | exact m0 | exact m1 | exact m2 | exact m3 | exact m4 | exact m5 | exact m6); rfl) | (apply Ops.st0; rfl; rfl; rfl; rfl; (first | exact u0 | exact u1 | exact u2 | exact u3 | exact u4 | exact u5); focus (simp; done)) | refine Ops.nil ?_ | refine Segs.nil ?_ | (apply Segs.oneS; rfl) | refine Run.seq ?_ | refine Run.reg ?_ | refine Run.block ?_ | refine Run.blk ?_ | refine Run.skip ?_))
    refine Ops.ixS rfl rfl ⟨by omega, by omega⟩ ?_
    refine Ops.ldn rfl m2 (by rw [hkl, Nat.zero_add]; omega) ?_
    simp only [Nat.zero_add, hget]
    refine Ops.stn0 (vs := bvs s) rfl rfl rfl (by rw [bvs_len, hs64]) (bvs_one s) u0 (by simp [zl64_intu80]) (by intro h; have := congrArg List.length h; rw [bvs_len, hs64] at this; cases this) ?_
    have hfull : List.take 0 zl64_intu80 ++ bvs s ++ List.drop (0 + 64) zl64_intu80 = bvs s := by simp [zl64_intu80]
    rw [hfull]
    (repeat (first | (apply Ops.q; rfl; rfl) | (apply Ops.gyB; rfl; rfl) | (apply Ops.gnB; rfl; decide) | (apply Ops.add; rfl; rfl; (constructor <;> omega)) | (apply Ops.sub; rfl; rfl; (constructor <;> omega)) | (apply Ops.rem; rfl; rfl; omega; omega) | (apply Ops.quo; rfl; rfl; (constructor <;> omega); omega) | (apply Ops.ld; rfl; (first | exact m0 | exact m1 | exact m2 | exact m3 | exact m4 | exact m5 | exact m6); rfl) | (apply Ops.st0; rfl; rfl; rfl; rfl; (first | exact u0 | exact u1 | exact u2 | exact u3 | exact u4 | exact u5); focus (simp; done)) | refine Ops.nil ?_ | refine Segs.nil ?_ | (apply Segs.oneS; rfl) | refine Run.seq ?_ | refine Run.reg ?_ | refine Run.block ?_ | refine Run.blk ?_ | refine Run.skip ?_))
    refine Run.ret Try.func21 (rs := [.cell 4 57, .tmp 5]) rfl (.celln rfl sector_agg sector_info (.inl m0) (by rw [bvs_len, hs64]; exact Nat.le_refl _) (.tmp rfl .nil)) (hfold _) ⟨?_, rfl⟩
    have : (List.drop 0 (bvs s)).take Try.t57.size = bvs s := by rw [List.drop_zero]; exact List.take_of_length_le (by rw [bvs_len, hs64]; exact Nat.le_refl _)
    rw [this]; rfl

theorem zeros_flat (n : Nat) : zerosL zl64_intu80 n = (List.replicate n (List.replicate 64 (0 : UInt8))).flatMap bvs := by
  unfold zerosL
  rw [List.flatMap_replicate, zl64_bvs]

theorem disk_New (n : Int) (hn : -9223372036854775808 ≤ n ∧ n < 9223372036854775808) (F : Hp) :
    Spec Try.prog 8 [.int .i64 n].toArray F [] fun v H => ∃ d, v = .pointer (some ⟨d, 0, none⟩) ∧ H = [DiskP d (DiskS.new n)] := by
  refine Spec.enter (n := 9) Try.func8 ok_disk_New rfl (by simp) ?_
  unfold ec_disk_New
  simp only [argFr, Nat.reduceAdd]
  (repeat (first | (apply Ops.q; rfl; rfl) | (apply Ops.gyB; rfl; rfl) | (apply Ops.gnB; rfl; decide) | (apply Ops.add; rfl; rfl; (constructor <;> omega)) | (apply Ops.sub; rfl; rfl; (constructor <;> omega)) | (apply Ops.rem; rfl; rfl; omega; omega) | (apply Ops.quo; rfl; rfl; (constructor <;> omega); omega) | (apply Ops.ld; rfl; (first | exact m0 | exact m1 | exact m2 | exact m3 | exact m4 | exact m5 | exact m6); rfl) | (apply Ops.st0; rfl; rfl; rfl; rfl; (first | exact u0 | exact u1 | exact u2 | exact u3 | exact u4 | exact u5); focus (simp; done)) | refine Ops.nil ?_ | refine Segs.nil ?_ | (apply Segs.oneS; rfl) | refine Run.seq ?_ | refine Run.reg ?_ | refine Run.block ?_ | refine Run.blk ?_ | refine Run.skip ?_))
  have e1 : (if (4096 : Int) < n then (4096 : Int) else n) = min n 4096 := by split <;> omega
  have e2 : (if (if (4096 : Int) < n then (4096 : Int) else n) > 1 then (if (4096 : Int) < n then (4096 : Int) else n) else 1) = max 1 (min n 4096) := by rw [e1]; split <;> omega
  refine Ops.mks (n := max 1 (min n 4096)) (m := max 1 (min n 4096)) (by rw [← e2]; rfl) (by rw [← e2]; rfl) (by omega) (Int.le_refl _) (by omega) fun kb => ?_
  refine Ops.bld [.slice (some ⟨kb, 0, none⟩) (max 1 (min n 4096)).toNat (max 1 (min n 4096)).toNat, .slice none 0 0, .bool false, .int .i64 (-1), .int .u64 0, .int .i64 0] rfl rfl ?_
  refine Ops.box (vs := [.slice (some ⟨kb, 0, none⟩) (max 1 (min n 4096)).toNat (max 1 (min n 4096)).toNat, .slice none 0 0, .bool false, .int .i64 (-1), .int .u64 0, .int .i64 0]) rfl rfl fun d => ?_
  (repeat (first | (apply Ops.q; rfl; rfl) | (apply Ops.gyB; rfl; rfl) | (apply Ops.gnB; rfl; decide) | (apply Ops.add; rfl; rfl; (constructor <;> omega)) | (apply Ops.sub; rfl; rfl; (constructor <;> omega)) | (apply Ops.rem; rfl; rfl; omega; omega) | (apply Ops.quo; rfl; rfl; (constructor <;> omega); omega) | (apply Ops.ld; rfl; (first | exact m0 | exact m1 | exact m2 | exact m3 | exact m4 | exact m5 | exact m6); rfl) | (apply Ops.st0; rfl; rfl; rfl; rfl; (first | exact u0 | exact u1 | exact u2 | exact u3 | exact u4 | exact u5); focus (simp; done)) | refine Ops.nil ?_ | refine Segs.nil ?_ | (apply Segs.oneS; rfl) | refine Run.seq ?_ | refine Run.reg ?_ | refine Run.block ?_ | refine Run.blk ?_ | refine Run.skip ?_))
  refine Run.ret1 Try.func8 rfl rfl (fun h q => fold_grp (I := DiskI d (DiskS.new n)) (.cons s1 (.cons s1 (.cons s0 .nil))) ⟨kb, none, 0, ⟨fun s hs => ?_, (fun e he => by cases he), ?_, by simp [DiskS.new], by simp [DiskS.new], by simp [DiskS.new]⟩, ?_⟩ h (own_new (s := 65) (T := 76) h q)) ⟨d, rfl, rfl⟩
  · rw [(List.mem_replicate.1 hs).2]; simp
  · simp only [DiskS.new, List.length_replicate]; omega
  · rw [zeros_flat]; simp [DiskS.new]

end Eng
end Go.Proofs.Ytbhlolmglieehaa
