/- A log, plainly. -/
import Derived.Test.YtbhlolmglieehaaModRec
import Derived.Test.YtbhlolmglieehaaEngU
set_option linter.unusedSimpArgs false
set_option linter.unusedVariables false
namespace Go.Proofs.Ytbhlolmglieehaa

structure LogS where
  epoch : Nat
  top : Nat
  half : Nat
  pos : Nat
  list : List Bytes
  dead : Bool

/-- how many sectors each half has -/
def DiskS.hf (D : DiskS) : Nat := (D.kept.length - 2) / 2
/-- what a place shows -/
def DiskS.at_ (D : DiskS) (a : Nat) : Bytes := (DiskS.lastOf a D.cache).getD (D.kept.getD a [])

def sectorsOf (n : Nat) : Nat := (n + 78) / 63

/-- how a record begins -/
def hdrOf (seq epoch : Nat) (b : Bytes) : Bytes := le4 b.length ++ (le4 seq ++ (le4 epoch ++ (le4 (crcOf ((le4 seq ++ le4 epoch) ++ b)) ++ b)))
/-- the i-th sector of a record -/
def sectOf (all : Bytes) (i : Nat) : Bytes :=
  (if i = 0 then 2 else 3) :: ((all.drop (i * 63)).take 63 ++ List.replicate (63 - ((all.drop (i * 63)).take 63).length) 0)
def cutOf (seq epoch : Nat) (b : Bytes) : List Bytes := (List.range (sectorsOf b.length)).map (sectOf (hdrOf seq epoch b))

/-- sectors are written one behind the other, from a place on -/
def DiskS.put (D : DiskS) (at_ : Nat) : List Bytes → Int × DiskS
  | [] => (0, D)
  | s :: r => if (D.write at_ s).1 = 0 then (D.write at_ s).2.put (at_ + 1) r else D.write at_ s

/-- a step that is taken where that ahead of it was taken well -/
def andThen (x : Int × DiskS) (f : DiskS → Int × DiskS) : Int × DiskS := if x.1 = 0 then f x.2 else x

def LogS.base (L : LogS) (D : DiskS) (k : Nat) : Nat := 2 + L.half * D.hf + k

def LogS.keep (L : LogS) (D : DiskS) (ss : List Bytes) : Int × DiskS :=
  andThen (if 1 < ss.length then andThen (D.put (L.base D (L.pos + 1)) ss.tail) DiskS.flush else (0, D)) fun D =>
    andThen (D.put (L.base D L.pos) (ss.take 1)) DiskS.flush

theorem sectOf_len (all : Bytes) (i : Nat) : (sectOf all i).length = 64 := by
  unfold sectOf
  have : ((all.drop (i * 63)).take 63).length ≤ 63 := List.length_take_le _ _
  simp only [List.length_cons, List.length_append, List.length_replicate]; omega

theorem cutOf_all (seq epoch : Nat) (b : Bytes) : ∀ s ∈ cutOf seq epoch b, s.length = 64 := by
  intro s hs
  obtain ⟨i, _, rfl⟩ := List.mem_map.1 hs
  exact sectOf_len _ _

theorem cutOf_len (seq epoch : Nat) (b : Bytes) : (cutOf seq epoch b).length = sectorsOf b.length := by simp [cutOf]

theorem hdrOf_len (seq epoch : Nat) (b : Bytes) : (hdrOf seq epoch b).length = 16 + b.length := by
  simp only [hdrOf, List.length_append, le4_len]; omega

theorem DiskS.read_at {D : DiskS} (hd : D.down = false) {a : Nat} (ha : a < D.kept.length) : D.read a = (D.at_ a, 0) := by
  unfold DiskS.read DiskS.at_
  rw [if_neg (by simp [hd]), if_neg (by omega)]; rfl

namespace Eng

/-- bytes that are owned -/
def RowI (v : Value) (bs : Bytes) (G : List HA) : Prop := ∃ a c, v = .slice a bs.length c ∧ ((bs = [] ∧ G = []) ∨
  ∃ b o L T, a = some ⟨b, o, none⟩ ∧ o + bs.length ≤ L.length ∧ (L.drop o).take bs.length = bvs bs ∧ G = [.pt b (.cells (List.toArray L) T (0, 0))])

theorem RowI.rdB {v : Value} {bs : Bytes} {G : List HA} (h : RowI v bs G) {F : Hp} (k : Known G F) : RdB F v bs := by
  obtain ⟨a, c, rfl, ⟨h, _⟩ | ⟨b, o, L, T, ha, hl, ht, rfl⟩⟩ := h
  · exact ⟨a, c, rfl, .inl h⟩
  · exact ⟨a, c, rfl, .inr ⟨b, o, L, T, (0, 0), ha, k _ _ m0, hl, ht⟩⟩

theorem OwnI.row {a : Option Addr} {n c : Nat} {T : TypeId} {bs : Bytes} {G : List HA} (h : OwnI a n c 1 T (bvs bs) G) : n = bs.length ∧ RowI (.slice a n c) bs G := by
  obtain ⟨hl, h⟩ := h
  have hn : n = bs.length := by rw [bvs_len] at hl; omega
  subst hn
  refine ⟨rfl, a, c, rfl, ?_⟩
  rcases h with ⟨_, h, _, h2⟩ | ⟨b, sp, rfl, hc, hcap, rfl⟩
  · exact .inl ⟨List.length_eq_zero_iff.1 h, h2⟩
  · exact .inr ⟨b, 0, bvs bs ++ sp, T, rfl, by simp [bvs_len], by simp [← bvs_len bs], rfl⟩

/-- a front part of it -/
theorem OwnI.front {a : Option Addr} {n c m c' : Nat} {T : TypeId} {bs : Bytes} {G : List HA} (h : OwnI a n c 1 T (bvs bs) G) (hm : m ≤ bs.length) : ∀ h, seps G h → ∃ G', RowI (.slice a m c') (bs.take m) G' ∧ seps G' h := by
  intro w q
  obtain ⟨hl, h⟩ := h
  have hn : n = bs.length := by rw [bvs_len] at hl; omega
  subst hn
  have hlen : (bs.take m).length = m := by simp; omega
  rcases h with ⟨_, h, _, h2⟩ | ⟨b, sp, rfl, hc, hcap, rfl⟩
  · have : bs = [] := List.length_eq_zero_iff.1 h
    subst this
    have : m = 0 := by simpa using hm
    subst this
    exact ⟨[], ⟨a, c', rfl, .inl ⟨rfl, rfl⟩⟩, trivial⟩
  · refine ⟨_, ⟨_, c', by rw [hlen], .inr ⟨b, 0, bvs bs ++ sp, T, rfl, by rw [hlen]; simp [bvs_len]; omega, ?_, rfl⟩⟩, q⟩
    rw [hlen, List.drop_zero, List.take_append_of_le_length (by rw [bvs_len]; exact hm)]
    simp [bvs, List.map_take]

theorem RdB.showsN {F : Hp} {v : Value} {bs : Bytes} (h : RdB F v bs) {m : Nat} (hm : m ≤ bs.length) {H : List HA} : ∀ w h, seps H h → Fits F h w → Eng.shows w 1 m v (bvs (bs.take m)) := by
  intro w hh _ f
  obtain ⟨a, c, rfl, h | ⟨b, o, L, T, fz, rfl, hF, hl, ht⟩⟩ := h
  · subst h
    have : m = 0 := by simpa using hm
    subst this
    cases a with
    | none => rfl
    | some a => exact .inl ⟨rfl, rfl⟩
  · refine .inr ⟨rfl, L, T, fz, f.frm _ _ hF, by simp only [Nat.mul_one]; omega, ?_⟩
    rw [Nat.mul_one]
    have := congrArg (List.take m) ht
    rw [List.take_take, Nat.min_eq_left hm] at this
    rw [this]; simp [bvs, List.map_take]

/-- bytes in a known block, named by the list of all its cells -/
theorem rdB_at {F : Hp} {b o : Nat} {bs : Bytes} {T : TypeId} {fz : Nat × Nat} (hF : F b = some (.cells (bvs bs).toArray T fz)) (n : Nat) (hl : o + n ≤ bs.length) {a : Option Addr} {c : Nat} (ha : a = some ⟨b, o, none⟩ ∨ n = 0) :
    RdB F (.slice a n c) ((bs.drop o).take n) := by
  have hlen : ((bs.drop o).take n).length = n := by simp; omega
  refine ⟨a, c, by rw [hlen], ?_⟩
  rcases ha with ha | ha
  · exact .inr ⟨b, o, bvs bs, T, fz, ha, hF, by rw [hlen, bvs_len]; exact hl, by rw [hlen]; simp [bvs, List.map_take, List.map_drop]⟩
  · subst ha; exact .inl (by simp)

inductive RdsB (F : Hp) : List Value → List Bytes → Prop where
  | nil : RdsB F [] []
  | cons {v vs b bs} : RdB F v b → RdsB F vs bs → RdsB F (v :: vs) (b :: bs)

theorem RdsB.len {F : Hp} {vs : List Value} {bss : List Bytes} (h : RdsB F vs bss) : vs.length = bss.length := by
  induction h with
  | nil => rfl
  | cons _ _ ih => simp [ih]
theorem RdsB.get {F : Hp} {vs : List Value} {bss : List Bytes} (h : RdsB F vs bss) : ∀ (i : Nat) (bs : Bytes), bss[i]? = some bs → ∃ x : Value, vs[i]? = some x ∧ RdB F x bs := by
  induction h with
  | nil => intro i bs hi; simp at hi
  | cons hv _ ih =>
    intro i bs hi
    cases i with
    | zero => simp at hi; subst hi; exact ⟨_, rfl, hv⟩
    | succ i => exact ih i bs (by simpa using hi)
theorem RdsB.ext {F F' : Hp} (e : Ext F F') {vs : List Value} {bss : List Bytes} (h : RdsB F vs bss) : RdsB F' vs bss := by
  induction h with
  | nil => exact .nil
  | cons h _ ih => exact .cons (h.ext e) ih

theorem rdBB_mk {F : Hp} {b n c : Nat} {vs sp : List Value} {bss : List Bytes} {T : TypeId} {fz : Nat × Nat} (hF : F b = some (.cells (vs ++ sp).toArray T fz)) (h : RdsB F vs bss) (hn : n = bss.length) : RdBB F (.slice (some ⟨b, 0, none⟩) n c) bss := by
  subst hn
  refine ⟨_, c, rfl, .inr ⟨b, 0, vs ++ sp, T, fz, rfl, hF, by simp [h.len], fun i bs hi => ?_⟩⟩
  obtain ⟨x, hx, hr⟩ := h.get i bs hi
  refine ⟨x, ?_, hr⟩
  rw [Nat.zero_add, List.getElem?_append_left]
  · exact hx
  · rcases Nat.lt_or_ge i vs.length with g | g
    · exact g
    · rw [List.getElem?_eq_none g] at hx; cases hx

theorem rdBB_mk0 {F : Hp} {b n c : Nat} {vs : List Value} {bss : List Bytes} {T : TypeId} {fz : Nat × Nat} (hF : F b = some (.cells vs.toArray T fz)) (h : RdsB F vs bss) (hn : n = bss.length) : RdBB F (.slice (some ⟨b, 0, none⟩) n c) bss :=
  rdBB_mk (sp := []) (by simpa using hF) h hn

/-- sectors that can be read in the frame -/
def RdS (F : Hp) (v : Value) (ss : List Bytes) : Prop := ∃ a c, v = .slice a ss.length c ∧ ss.length ≤ c ∧ (∀ s ∈ ss, s.length = 64) ∧
  (ss = [] ∨ ∃ b o L T fz, a = some ⟨b, o, none⟩ ∧ F b = some (.cells (List.toArray L) T fz) ∧ o + ss.length * 64 ≤ L.length ∧ (L.drop o).take (ss.length * 64) = ss.flatMap bvs)

/-- rows, each of which is owned -/
inductive RowsI : List Value → List Bytes → List HA → Prop where
  | nil : RowsI [] [] []
  | cons {v vs b bs G Gs} : RowI v b G → RowsI vs bs Gs → RowsI (v :: vs) (b :: bs) (G ++ Gs)

theorem RowsI.len {vs : List Value} {bss : List Bytes} {G : List HA} (h : RowsI vs bss G) : vs.length = bss.length := by
  induction h with
  | nil => rfl
  | cons _ _ ih => simp [ih]
theorem Known.left {G H : List HA} {F : Hp} (k : Known (G ++ H) F) : Known G F := fun b o m => k b o (List.mem_append_left _ m)
theorem Known.right {G H : List HA} {F : Hp} (k : Known (G ++ H) F) : Known H F := fun b o m => k b o (List.mem_append_right _ m)
theorem Known.tail {x : HA} {H : List HA} {F : Hp} (k : Known (x :: H) F) : Known H F := fun b o m => k b o (.tail _ m)
theorem RowsI.rds {vs : List Value} {bss : List Bytes} {G : List HA} (h : RowsI vs bss G) {F : Hp} (k : Known G F) : RdsB F vs bss := by
  induction h with
  | nil => exact .nil
  | cons r _ ih => exact .cons (r.rdB k.left) (ih k.right)
theorem RowsI.snoc {vs : List Value} {bss : List Bytes} {G G2 : List HA} {v : Value} {b : Bytes} (h : RowsI vs bss G) (r : RowI v b G2) : RowsI (vs ++ [v]) (bss ++ [b]) (G ++ G2) := by
  induction h with
  | nil => simpa using RowsI.cons r .nil
  | cons q _ ih => simpa [List.append_assoc] using RowsI.cons q ih

def RowsP (vs : List Value) (bss : List Bytes) : HA := grp (RowsI vs bss)

def lcells (d : Nat) (L : LogS) (a : Option Addr) (n c : Nat) : List Value :=
  [.pointer (some ⟨d, 0, none⟩), .int .i64 L.epoch, .int .i64 L.top, .int .i64 L.half, .int .i64 L.pos, .slice a n c, .bool L.dead]

@[simp] theorem lcells_len (d : Nat) (L : LogS) (a : Option Addr) (n c : Nat) : (lcells d L a n c).length = 7 := rfl

/-- a log in memory -/
def LogI (l d : Nat) (L : LogS) (G : List HA) : Prop := ∃ a c vs, L.half ≤ 1 ∧ vs.length = L.list.length ∧ G =
  [.pt l (.cells (lcells d L a vs.length c).toArray 55 (0, 0)), OwnS a vs.length c 1 30 vs, RowsP vs L.list]
def LogP (l d : Nat) (L : LogS) : HA := grp (LogI l d L)

end Eng
end Go.Proofs.Ytbhlolmglieehaa
