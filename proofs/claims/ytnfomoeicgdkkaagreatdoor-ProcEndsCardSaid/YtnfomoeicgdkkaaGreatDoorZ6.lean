/- A new disk, and one whose power went. -/
import Derived.Test.YtnfomoeicgdkkaaGreatDoorZ5
import Derived.Test.YtnfomoeicgdkkaaGreatDoorZ2
import Derived.Test.YtnfomoeicgdkkaaGreatDoorZ4
import Derived.Laws.Strings
import Derived.Laws.RangeString
import Derived.Laws.RangeAny
import Derived.Lib.SplitLaws
set_option linter.unusedSimpArgs false
set_option linter.unusedVariables false
namespace Go.Proofs.YtnfomoeicgdkkaaGreatDoor

def zsec : Bytes := List.replicate 64 0
theorem good_zero : goodOf zsec = (0, false) := by unfold goodOf zsec; rw [if_pos rfl]
theorem look_zero (t : Nat) : lookStep zsec t = t := by unfold lookStep; rw [if_neg (by decide)]

theorem lookN_zero (D : DiskS) : ∀ (n a t : Nat), (∀ b, a ≤ b → b < a + n → D.at_ b = zsec) → lookN D n a t = t := by
  intro n
  induction n with
  | zero => intro a t _; rfl
  | succ n ih =>
    intro a t h
    simp only [lookN]
    rw [h a (Nat.le_refl _) (by omega), look_zero]
    exact ih (a + 1) t fun b h1 h2 => h b (by omega) (by omega)

theorem new_ok {n : Nat} (hn : 1 ≤ n ∧ n ≤ 4096) : (DiskS.new n).Ok ∧ (DiskS.new n).kept.length = n := by
  have hl : (DiskS.new n).kept.length = n := by unfold DiskS.new; simp only [List.length_replicate]; omega
  refine ⟨⟨fun s hs => ?_, fun e he => (by cases he), by omega, (show 0 < 2 ^ 64 by decide), by simp [DiskS.new], (show -9223372036854775808 ≤ (-1 : Int) ∧ (-1 : Int) < 9223372036854775808 by decide)⟩, hl⟩
  unfold DiskS.new at hs
  rw [List.eq_of_mem_replicate hs]; rfl

theorem new_at {n : Nat} (hn : 1 ≤ n ∧ n ≤ 4096) {a : Nat} (ha : a < n) : fK (DiskS.new n).kept a = zsec := by
  unfold fK DiskS.new
  simp only
  rw [List.getD_eq_getElem?_getD, List.getElem?_replicate, if_pos (by omega)]; rfl

/-- what is opened on a new disk -/
theorem new_open {n : Nat} (hn : 6 ≤ n ∧ n ≤ 4096) : ∃ L D, openS (DiskS.new n) = (0, some L, D) ∧ Held L D [] ∧ L.top = 1 ∧ D.fate ≤ 0 ∧ D.kept.length = n := by
  obtain ⟨hok, hl⟩ := new_ok (n := n) (by omega)
  have hat : (DiskS.new n).at_ = fK (DiskS.new n).kept := at_nil rfl
  have hz : ∀ a, a < n → (DiskS.new n).at_ a = zsec := fun a ha => by rw [hat]; exact new_at (by omega) ha
  have hhd : headS (DiskS.new n) = mkL 0 0 := by
    unfold headS
    simp only [headN]
    rw [hz 0 (by omega), hz (0 + 1) (by omega), good_zero]
    rfl
  have hlk : lookS (DiskS.new n) = ⟨0, 0, 0, 0, [], false⟩ := by
    unfold lookS
    rw [hhd, lookN_zero _ _ _ _ (fun b h1 h2 => hz b (by omega))]
    rfl
  have hhf : (DiskS.new n).hf = (n - 2) / 2 := by unfold DiskS.hf; rw [hl]
  have lok : LogS.Ok ⟨0, 0, 0, 0, [], false⟩ (DiskS.new n) := ⟨by decide, Nat.zero_le _, by decide, by decide, Nat.le_refl _, hok, by omega⟩
  have hr := rewrite_out lok rfl rfl rfl (bss := []) (by simp) (Nat.zero_le _) (by decide)
    (fun a h1 h2 h3 => by rw [new_at (by omega) (by omega)] at h3; exact absurd h3 (by decide))
    (fun a h1 h2 => by rw [new_at (by omega) (by omega), good_zero] at h2; cases h2)
  unfold openS
  rw [if_neg (by omega), hhd, if_pos (show (mkL 0 0).epoch = 0 from rfl), hlk]
  generalize LogS.rewrite ⟨0, 0, 0, 0, [], false⟩ (DiskS.new n) [] = r at *
  rcases hr with ⟨h1, h2, h3, h4, h5⟩ | ⟨_, h2, _⟩
  · rw [if_pos h1]
    exact ⟨_, _, rfl, h2, h5, h3 (show (-1 : Int) ≤ 0 by decide), by omega⟩
  · exact absurd h2 (show ¬ (0 : Int) < -1 by decide)

/-- a disk that bears a log -/
structure Bears (D : DiskS) (rs : List Bytes) (T : Nat) : Prop where
  ok : D.Ok
  cache : D.cache = []
  rep : ∃ e h, Rep (fK D.kept) D.kept.length e h rs T

theorem Held.bears {L : LogS} {D : DiskS} {rs : List Bytes} (h : Held L D rs) : Bears D rs L.top := ⟨h.ok.disk, h.cache, _, _, h.rep⟩

theorem Bears.crash {D : DiskS} {rs : List Bytes} {T : Nat} (h : Bears D rs T) (keeps : Nat) : Bears (D.crash keeps) rs T ∧ (D.crash keeps).kept = D.kept := by
  have : (D.crash keeps).kept = D.kept := by unfold DiskS.crash; rw [h.cache]; rfl
  exact ⟨⟨h.ok.crash keeps, rfl, by rw [this]; exact h.rep⟩, this⟩

theorem Ok.on {D : DiskS} (h : D.Ok) : ({ D with down := false } : DiskS).Ok := ⟨h.kept, h.cache, h.size, h.keeps, h.few, h.fate⟩
theorem Ok.plan {D : DiskS} (h : D.Ok) {n : Int} {k : Nat} (hn : -9223372036854775808 ≤ n ∧ n < 9223372036854775808) (hk : k < 2 ^ 64) : (D.plan n k).Ok := ⟨h.kept, h.cache, h.size, hk, h.few, hn⟩

theorem Bears.on {D : DiskS} {rs : List Bytes} {T : Nat} (h : Bears D rs T) : Bears { D with down := false } rs T := ⟨Ok.on h.ok, h.cache, h.rep⟩

theorem Bears.open_ {D : DiskS} {rs : List Bytes} {T : Nat} (h : Bears D rs T) (hd : D.down = false) : ∃ L, openS D = (0, some L, D) ∧ Held L D rs ∧ L.top ≤ T := by
  obtain ⟨e, hh, r⟩ := h.rep
  obtain ⟨L, h1, h2, h3, _, _⟩ := open_held h.ok hd h.cache r
  exact ⟨L, h1, h2, h3⟩

theorem Held.plan {L : LogS} {D : DiskS} {rs : List Bytes} (h : Held L D rs) {n : Int} {k : Nat} (hn : -9223372036854775808 ≤ n ∧ n < 9223372036854775808) (hk : k < 2 ^ 64) : Held L (D.plan n k) rs :=
  ⟨⟨h.ok.half, h.ok.pos, h.ok.epoch, h.ok.top, h.ok.list, Ok.plan h.ok.disk hn hk, h.ok.size⟩, h.list, h.pos, h.dead, h.down, h.cache, h.rep⟩

/-- a log that is held is written anew -/
theorem rewrite_held {L : LogS} {D : DiskS} {rs bss : List Bytes} (h : Held L D rs) (h4 : ∀ b ∈ bss, b.length ≤ 4096) (hroom : total bss ≤ D.hf) (ht : L.top + 1 ≤ 2147483648) :
    ((L.rewrite D bss).1 = 0 ∧ Held (L.rewrite D bss).2.1 (L.rewrite D bss).2.2 bss ∧ (D.fate ≤ 0 → (L.rewrite D bss).2.2.fate ≤ 0) ∧ (L.rewrite D bss).2.2.kept.length = D.kept.length ∧ (L.rewrite D bss).2.1.top = L.top + 1) ∨
    ((L.rewrite D bss).1 = 3 ∧ 0 < D.fate ∧ (L.rewrite D bss).2.2.down = true ∧ (L.rewrite D bss).2.2.fate = -1 ∧ (L.rewrite D bss).2.2.kept.length = D.kept.length ∧ ∃ l', (l' = rs ∨ l' = bss) ∧ Bears (L.rewrite D bss).2.2 l' (L.top + 1)) := by
  have r := h.rep
  have hh := r.half
  have hee := r.epoch
  have hgh : goodOf (fK D.kept L.half) = ((L.epoch : Int), true) := by rw [r.head]; exact good_head (by have := r.top; omega)
  have hheads : ∀ a, a < 2 → (goodOf (fK D.kept a)).2 = true → (goodOf (fK D.kept a)).1 ≤ L.top := by
    intro a ha hg
    by_cases e : a = L.half
    · rw [e, hgh]; dsimp only; omega
    · have e2 : a = 1 - L.half := by omega
      rw [e2] at hg ⊢
      have := r.other hg; omega
  rcases rewrite_out h.ok h.dead h.down h.cache h4 hroom ht r.tops hheads with ⟨h1, h2, h3, h5, h6⟩ | ⟨h1, h2, h3, h5, h6, h7, h8, h9, h10⟩
  · exact .inl ⟨h1, h2, h3, h5, h6⟩
  · refine .inr ⟨h1, h2, h6, h8, h9, ?_⟩
    rcases h10 with h10 | h10
    · exact ⟨bss, .inr rfl, h5, h7, _, _, by rw [h9]; exact h10⟩
    · have := r.tornAnew (t := L.top) ht (by exact hroom) h10
      rw [show max L.top (L.top + 1) = L.top + 1 by omega] at this
      exact ⟨rs, .inl rfl, h5, h7, _, _, by rw [h9]; exact this⟩
end Go.Proofs.YtnfomoeicgdkkaaGreatDoor

/- Rules that the laws' walks share: lists that can be read in the frame, rows pulled out of rows, ways that meet. -/
set_option linter.unusedSimpArgs false
set_option linter.unusedVariables false
namespace Go.Proofs.YtnfomoeicgdkkaaGreatDoor
namespace Eng
section
variable {P : Program} {F : Hp} {l : Fr} {H : List HA} {C : Fr → List HA → Prop} {es : List EG} {i d : Nat} {c : Bool}

theorem Ops.cvBS {x : Operand} {v : Value} {bs : Bytes} (hx : get l x = some v) (hr : RdB F v bs) (k : Ops P F es ((d, .string ⟨bs.toArray⟩) :: l) H C) : Ops P F (EG.mk i (some d) none c (.cvBS x) :: es) l H C :=
  Ops.any (fun ρ w Q ag f q => by
    obtain ⟨a, c, rfl, h⟩ := hr
    refine ⟨a, c, bs, ag _ _ hx, ?_, q⟩
    rw [ag _ _ hx]
    rcases h with h | ⟨b, o, L, T, fz, rfl, hF, hl, ht⟩
    · subst h
      cases a with
      | none => rfl
      | some a => exact .inl ⟨rfl, rfl⟩
    · exact .inr ⟨rfl, L, T, fz, f _ _ hF, by rw [Nat.mul_one]; exact hl, by rw [Nat.mul_one, ht]; rfl⟩) k

theorem Ops.cvLit {x : Operand} {b n m : Nat} {L : List Value} {T : TypeId} {H' : List HA} (hx : get l x = some (.slice (some ⟨b, 0, none⟩) n m))
    (u : Upd H (.pt b (.cells L.toArray T (0, 0))) (.pt b (.cells L.toArray T (L.length, L.length + 1))) H')
    (k : Ops P F es ((d, .slice (some ⟨b, 0, none⟩) n m) :: l) H' C) : Ops P F (EG.mk i (some d) none false (.cvLit x) :: es) l H C :=
  Ops.busy (R := fun v' M => v' = .slice (some ⟨b, 0, none⟩) n m ∧ M = H') (fun F' ex w h ρ a q f =>
    ⟨b, n, m, L, T, (0, 0), a _ _ hx, f.own _ _ (seps_mem_pt u.mem q), rfl, by rw [a _ _ hx]; exact ⟨H', _, ⟨rfl, rfl⟩, seps_upd u q, f.set (seps_mem_pt u.mem q), Keeps.setBlk w b _⟩⟩)
    fun v' M ⟨e1, e2⟩ => by subst e1; subst e2; exact k

/-- whether a pointer is nil -/
theorem Ops.nilp {dd : TypeDesc} {x y : Operand} {a : Addr} (hd : ∃ T, dd = .pointer T) (hx : get l x = some (.pointer (some a))) (hy : get l y = some (.pointer none)) (k : Ops P F es ((d, .bool false) :: l) H C) :
    Ops P F (EG.mk i (some d) none c (.eqv dd false x y) :: es) l H C := by
  obtain ⟨T, rfl⟩ := hd
  refine Ops.p ?_ k
  simp only [pv, hx, hy]
  rfl

/-- an int under a mask -/
theorem Ops.mask {x y : Operand} {a : Int} (m : Nat) (hx : get l x = some (.int .i64 a)) (hy : get l y = some (.int .i64 (m : Int))) (hm : m < 9223372036854775808)
    (kk : ∀ n : Nat, n ≤ m → Ops P F es ((d, .int .i64 (n : Int)) :: l) H C) : Ops P F (EG.mk i (some d) none c (.bin .and x y) :: es) l H C := by
  refine Ops.p ?_ (kk (BitVec.ofInt 64 a &&& BitVec.ofInt 64 (m : Int)).toNat ?_)
  · simp only [pv, hx, hy, binVal, if_true]
    have hle : (BitVec.ofInt 64 a &&& BitVec.ofInt 64 (m : Int)).toNat ≤ m := by
      rw [BitVec.toNat_and, bv_nat (show m < 2 ^ 64 by omega)]; exact Nat.and_le_right
    show some (Value.int .i64 (IntKind.i64.wrap ((BitVec.ofInt 64 a &&& BitVec.ofInt 64 (m : Int)).toNat : Int))) = _
    rw [wrap_i64 (by omega) (by omega)]
  · rw [BitVec.toNat_and, bv_nat (show m < 2 ^ 64 by omega)]; exact Nat.and_le_right

end

section
variable {P : Program} {F : Hp} {l : Fr} {H : List HA} {C : Fr → List HA → Prop} {es : List EG} {i d : Nat} {c : Bool}
theorem Ops.gD {s : Nat} {want : Bool} {dd : Option Nat} {op : EOp} {p : Prop} [Decidable p] (hl : look l s = some (.bool (decide p))) (k1 : decide p = true → Ops P F (EG.mk i dd (some (s, want)) c op :: es) l H C) (k2 : decide p = false → Ops P F (EG.mk i dd (some (s, want)) c op :: es) l H C) :
    Ops P F (EG.mk i dd (some (s, want)) c op :: es) l H C := by
  by_cases h : p
  · exact k1 (decide_eq_true h)
  · exact k2 (decide_eq_false h)
theorem Ops.gnU {s : Nat} {want : Bool} {dd : Option Nat} {op : EOp} (hl : look l s = some undef) (k : Ops P F es (putD dd l undef) H C) : Ops P F (EG.mk i dd (some (s, want)) c op :: es) l H C :=
  Ops.gn hl (by simp [asB, undef]) k
theorem optG_n {x : Operand} {k : IntKind} {n d : Nat} (h : get l x = some (.int k (n : Int))) : optG l (some x) d = some n := by
  simp only [optG, h]
  rw [if_pos (by omega)]
  simp
/-- a piece of a slice of which nothing is known -/
theorem Ops.slX {x : Operand} {s : Nat} {lo hi : Option Operand} {a : Option Addr} {n cp l1 h1 : Nat} (hx : get l x = some (.slice a n cp)) (hh : optG l hi n = some h1) (hl : optG l lo 0 = some l1)
    (h2 : l1 ≤ h1) (h3 : h1 ≤ cp) (k : ∀ a', Ops P F es ((d, .slice a' (h1 - l1) (cp - l1)) :: l) H C) : Ops P F (EG.mk i (some d) none c (.slS x s lo hi none) :: es) l H C := by
  refine Ops.any (v := .slice (if cp = l1 then a else a.map (·.add (l1 * s))) (h1 - l1) (cp - l1)) (fun ρ w Q ag _ q => ?_) (k _)
  exact ⟨_, n, cp, l1, h1, cp, ag _ _ hx, rfl, optG_sound ag hh, optG_sound ag hl, by simp, h2, h3, Nat.le_refl _, q⟩
end

theorem Spec.openG {P : Program} {f : FuncId} {args : Array Value} {F : Hp} {I : List HA → Prop} {R : Value → List HA → Prop} (s : ∀ G, I G → Spec P f args F G R) : Spec P f args F [grp I] R := by
  unfold Spec
  intro w h q k
  obtain ⟨x, y, sp, ⟨G, hG, qG⟩, _⟩ := q
  have := s G hG
  unfold Spec at this
  exact this w h (seps_up qG sp.symm) k

theorem Spec.lendD {P : Program} {f : FuncId} {args : Array Value} {F : Hp} {G : List HA} {R : Value → List HA → Prop} (s : ∀ F', Ext F F' → Known G F' → Spec P f args F' [] R) : Spec P f args F G R := by
  have := Spec.frame (P := P) (f := f) (args := args) (F := F) (Pre := []) (Rest := G) (R := R) .nil s
  unfold Spec at this ⊢
  intro w h q k
  refine (this w h q k).mono ?_
  rintro e w' ⟨v, H', h', he, ⟨G', r, rfl⟩, q', k', kp⟩
  obtain ⟨x, y, sp, qx, _⟩ := seps_append.1 q'
  exact ⟨v, G', h', he, r, seps_up qx sp.symm, k', kp⟩

/-- a list's rows, once all of its blocks are known -/
def LstK (v : Value) (bss : List Bytes) (G : List HA) : Prop := (∃ a c, v = .slice a bss.length c) ∧ ∀ F, Known G F → RdBB F v bss

theorem lst_know {v : Value} {bss : List Bytes} {H : List HA} : ∀ h, seps (LstP v bss :: H) h → seps (grp (LstK v bss) :: H) h := by
  rintro h ⟨x, y, sp, ⟨G, ⟨a, c, vs, rfl, hv, rfl⟩, q⟩, qr⟩
  obtain ⟨x2, y2, sp2, ⟨G1, h1, q1⟩, ⟨x3, y3, sp3, ⟨G2, h2, q2⟩, _⟩⟩ := q
  exact ⟨x, y, sp, ⟨G1 ++ G2, ⟨⟨a, c, rfl⟩, fun F k => h1.rdBB k.left (h2.rds k.right)⟩, seps_append.2 ⟨x2, y2, sp2, q1, seps_up q2 sp3.symm⟩⟩, qr⟩

/-- a slice whose elements, of s cells each, are as Q says -/
def RdL {α : Type} (F : Hp) (s : Nat) (Q : List Value → α → Prop) (v : Value) (xs : List α) : Prop := ∃ a c, v = .slice a xs.length c ∧
  (xs = [] ∨ ∃ b o L T fz, a = some ⟨b, o, none⟩ ∧ F b = some (.cells (List.toArray L) T fz) ∧ o + xs.length * s ≤ L.length ∧ ∀ i x, xs[i]? = some x → Q ((L.drop (o + i * s)).take s) x)

theorem RdL.mono {α : Type} {F F' : Hp} {s : Nat} {Q Q' : List Value → α → Prop} {v : Value} {xs : List α} (h : RdL F s Q v xs) (e : Ext F F') (q : ∀ cs x, Q cs x → Q' cs x) : RdL F' s Q' v xs := by
  obtain ⟨a, c, rfl, h | ⟨b, o, L, T, fz, ha, hF, hl, hq⟩⟩ := h
  · exact ⟨a, c, rfl, .inl h⟩
  · exact ⟨a, c, rfl, .inr ⟨b, o, L, T, fz, ha, e _ _ hF, hl, fun i x hx => q _ _ (hq i x hx)⟩⟩

/-- one value whose bytes can be read -/
def Rd1 (F : Hp) (cs : List Value) (bs : Bytes) : Prop := ∃ v, cs = [v] ∧ RdB F v bs
theorem Rd1.ext {F F' : Hp} (e : Ext F F') {cs : List Value} {bs : Bytes} (h : Rd1 F cs bs) : Rd1 F' cs bs := by
  obtain ⟨v, h1, h2⟩ := h; exact ⟨v, h1, h2.ext e⟩

theorem one_at {L : List Value} {n : Nat} {v : Value} (h : (L.drop n).take 1 = [v]) : L[n]? = some v := by
  have := congrArg (fun l => l[0]?) h
  simpa [List.getElem?_take] using this

theorem RdL.bb {F : Hp} {v : Value} {bss : List Bytes} (h : RdL F 1 (Rd1 F) v bss) : RdBB F v bss := by
  obtain ⟨a, c, rfl, h | ⟨b, o, L, T, fz, ha, hF, hl, hq⟩⟩ := h
  · exact ⟨a, c, rfl, .inl h⟩
  · refine ⟨a, c, rfl, .inr ⟨b, o, L, T, fz, ha, hF, by omega, fun i bs hi => ?_⟩⟩
    obtain ⟨v, h1, h2⟩ := hq i bs hi
    rw [Nat.mul_one] at h1
    exact ⟨v, one_at h1, h2⟩

theorem RowsI.pull {vs : List Value} {bss : List Bytes} {G : List HA} (h : RowsI vs bss G) : ∀ (i : Nat) (v : Value) (b : Bytes), vs[i]? = some v → bss[i]? = some b →
    ∃ G1 Gi G2, RowI v b Gi ∧ G = G1 ++ (Gi ++ G2) ∧ ∀ b' Gi', RowI v b' Gi' → RowsI vs (bss.set i b') (G1 ++ (Gi' ++ G2)) := by
  induction h with
  | nil => intro i v b h; simp at h
  | @cons v0 vs b0 bss G Gs hr hs ih =>
    intro i v b hv hb
    cases i with
    | zero =>
      simp only [List.getElem?_cons_zero, Option.some.injEq] at hv hb
      subst hv; subst hb
      exact ⟨[], G, Gs, hr, rfl, fun b' Gi' h => (show RowsI (v0 :: vs) (b' :: bss) (Gi' ++ Gs) from .cons h hs)⟩
    | succ i =>
      obtain ⟨G1, Gi, G2, h1, h2, h3⟩ := ih i v b (by simpa using hv) (by simpa using hb)
      refine ⟨G ++ G1, Gi, G2, h1, by rw [h2, List.append_assoc], fun b' Gi' h => ?_⟩
      rw [List.append_assoc]
      exact .cons hr (h3 b' Gi' h)

/-- what is left of rows, one of which was taken out -/
def RestI (vs : List Value) (bss : List Bytes) (i : Nat) (v : Value) (G : List HA) : Prop := ∃ G1 G2, G = G1 ++ G2 ∧ ∀ b' Gi', RowI v b' Gi' → RowsI vs (bss.set i b') (G1 ++ (Gi' ++ G2))

theorem seps_comm {A B : List HA} : ∀ h, seps (A ++ B) h → seps (B ++ A) h := fun h q => by
  obtain ⟨x, y, sp, qx, qy⟩ := seps_append.1 q
  exact seps_append.2 ⟨y, x, sp.symm, qy, qx⟩

theorem seps_mid {A B C : List HA} : ∀ h, seps (A ++ (B ++ C)) h → seps (B ++ (A ++ C)) h := fun h q => by
  rw [← List.append_assoc] at q ⊢
  obtain ⟨x, y, sp, qx, qy⟩ := seps_append.1 q
  exact seps_append.2 ⟨x, y, sp, seps_comm _ qx, qy⟩

theorem rows_pull {vs : List Value} {bss : List Bytes} {i : Nat} {v : Value} {b : Bytes} {H : List HA} (hv : vs[i]? = some v) (hb : bss[i]? = some b) : ∀ h, seps (RowsP vs bss :: H) h → seps (RowP v b :: grp (RestI vs bss i v) :: H) h := by
  rintro h ⟨x, y, sp, ⟨G, hG, qG⟩, qr⟩
  obtain ⟨G1, Gi, G2, h1, rfl, h3⟩ := hG.pull i v b hv hb
  have q := seps_mid _ qG
  obtain ⟨x1, x2, sp1, q1, q2⟩ := seps_append.1 q
  have ⟨u, w⟩ := sp.assoc' sp1
  exact ⟨x1, _, u, ⟨Gi, h1, q1⟩, x2, y, w, ⟨_, ⟨G1, G2, rfl, h3⟩, q2⟩, qr⟩

theorem rows_push {vs : List Value} {bss : List Bytes} {i : Nat} {v : Value} {b : Bytes} {H : List HA} : ∀ h, seps (RowP v b :: grp (RestI vs bss i v) :: H) h → seps (RowsP vs (bss.set i b) :: H) h := by
  rintro h ⟨x1, y1, sp1, ⟨Gi, h1, q1⟩, x2, y, sp2, ⟨G, ⟨G1, G2, rfl, h3⟩, q2⟩, qr⟩
  have ⟨u, w⟩ := sp1.assoc sp2
  exact ⟨_, y, u, ⟨_, h3 b Gi h1, seps_mid _ (seps_append.2 ⟨x1, x2, w, q1, q2⟩)⟩, qr⟩

theorem rows_shape {vs : List Value} {bss : List Bytes} {i : Nat} {v : Value} {b : Bytes} {H : List HA} (hv : vs[i]? = some v) (hb : bss[i]? = some b) : ∀ h, seps (RowsP vs bss :: H) h → ∃ a c, v = .slice a b.length c := by
  rintro h ⟨x, y, sp, ⟨G, hG, qG⟩, qr⟩
  obtain ⟨G1, Gi, G2, ⟨a, c, h1, _⟩, rfl, h3⟩ := hG.pull i v b hv hb
  exact ⟨a, c, h1⟩

theorem Run.fact {P : Program} {f : FuncId} {n : Nat} {F : Hp} {K : List EI} {l : Fr} {H : List HA} {R : Value → List HA → Prop} {p : Prop} (e : ∀ h, seps H h → p) (r : p → Run P f n F K l H R) : Run P f n F K l H R :=
  fun K' w0 w h a i q fw fa k => r (e h q) K' w0 w h a i q fw fa k

theorem own_some {a : Option Addr} {n c s : Nat} {T : TypeId} {xs : List Value} {H : List HA} (hn : 1 ≤ n) : ∀ h, seps (OwnS a n c s T xs :: H) h → ∃ b, a = some ⟨b, 0, none⟩ ∧ (1 ≤ s → n ≤ c) := by
  rintro h ⟨x, y, sp, ⟨G, ⟨h1, ⟨_, h2, _⟩ | ⟨b, spare, h2, h3, h4, h5⟩⟩, _⟩, _⟩
  · omega
  · exact ⟨b, h2, fun _ => h3⟩

theorem take_all (G : List HA) : Take G G [] := by
  induction G with
  | nil => exact .nil
  | cons p ps ih => exact .cons .here ih

theorem seps_app {A A' B B' : List HA} (f : ∀ h, seps A h → seps A' h) (g : ∀ h, seps B h → seps B' h) : ∀ h, seps (A ++ B) h → seps (A' ++ B') h := fun h q => by
  obtain ⟨x, y, sp, qx, qy⟩ := seps_append.1 q
  exact seps_append.2 ⟨x, y, sp, f x qx, g y qy⟩

/-- the ways of a region meet again -/
theorem Ops.via {P : Program} {F : Hp} {es : List EG} {l : Fr} {H : List HA} {C : Fr → List HA → Prop} (fr : Fr) (X : List HA) (tail : ∀ l2, FrSub l2 fr → C l2 X) (main : Ops P F es l H fun l2 H2 => FrSub l2 fr ∧ H2 = X) : Ops P F es l H C :=
  Ops.eq (C := fun l2 H2 => FrSub l2 fr ∧ H2 = X) (fun _ l' _ e h => by rw [h.2]; exact tail l' fun t v x => by rw [← e t]; exact h.1 t v x) (FrEq.refl _) main

theorem rows_none {H : List HA} : ∀ h, seps H h → seps (RowsP [] [] :: H) h := fun h q => ⟨noHp, h, Split.empty h, ⟨[], .nil, trivial⟩, q⟩

theorem lst_nil {b : Nat} {H : List HA} : ∀ h, seps (.pt b (.cells ([] : List Value).toArray 22 (0, 0)) :: H) h → seps (grp (LstK (.slice (some ⟨b, 0, none⟩) 0 0) []) :: H) h := fun h q => by
  refine lst_know h (fold_grp (I := LstI (.slice (some ⟨b, 0, none⟩) 0 0) []) (G := [OwnS (some ⟨b, 0, none⟩) 0 0 1 22 [], RowsP [] []]) (R := H) (.cons s0 (.cons s0 .nil)) ⟨_, _, [], rfl, rfl, rfl⟩ h ?_)
  refine fold_grp (I := OwnI (some ⟨b, 0, none⟩) 0 0 1 22 []) (.cons s0 .nil) ⟨rfl, .inr ⟨b, [], rfl, Nat.le_refl _, rfl, rfl⟩⟩ h ?_
  exact seps_cons (fun h q => rows_none h q) q

theorem Spec.post {P : Program} {f : FuncId} {args : Array Value} {F : Hp} {Pre : List HA} {R R' : Value → List HA → Prop} (s : Spec P f args F Pre R) (g : ∀ v H h, R v H → seps H h → ∃ H', R' v H' ∧ seps H' h) : Spec P f args F Pre R' := by
  unfold Spec at s ⊢
  intro w h q k
  refine (s w h q k).mono ?_
  rintro e w' ⟨v, H', h', he, r, q', k', kp⟩
  obtain ⟨H2, r2, q2⟩ := g v H' h' r q'
  exact ⟨v, H2, h', he, r2, q2, k', kp⟩

theorem Spec.pre {P : Program} {f : FuncId} {args : Array Value} {F : Hp} {Pre Pre' : List HA} {R : Value → List HA → Prop} (e : ∀ h, seps Pre h → seps Pre' h) (s : Spec P f args F Pre' R) : Spec P f args F Pre R := by
  unfold Spec at s ⊢
  exact fun w h q k => s w h (e h q) k

end Eng
end Go.Proofs.YtnfomoeicgdkkaaGreatDoor

/- Bytes and texts that are taken off bytes; strings as lists of bytes. -/
set_option linter.unusedSimpArgs false
set_option linter.unusedVariables false
set_option maxRecDepth 1000000
namespace Go.Proofs.YtnfomoeicgdkkaaGreatDoor

def Rd.raw (most : Int) (R : Rd) : Bytes × Rd :=
  if (R.num most).2.b.length < (R.num most).1.toNat then ([], ⟨[], true⟩)
  else ((R.num most).2.b.take (R.num most).1.toNat, ⟨(R.num most).2.b.drop (R.num most).1.toNat, (R.num most).2.bad⟩)

def raw (b : Bytes) : Bytes := le4 b.length ++ b

def Rd.done (R : Rd) : Bool := !R.bad && decide (R.b = [])

theorem Rd.num_nonneg (most : Int) (R : Rd) : 0 ≤ (R.num most).1 ∧ (R.num most).1 < 4294967296 := by
  obtain ⟨b, bad⟩ := R
  match b with
  | a :: b :: c :: d :: r =>
    have := val4_lt a b c d
    simp only [Rd.num]; split <;> simp <;> omega
  | [] => simp [Rd.num]
  | [_] => simp [Rd.num]
  | [_, _] => simp [Rd.num]
  | [_, _, _] => simp [Rd.num]

theorem Rd.raw_len (most : Int) (R : Rd) : (R.raw most).2.b.length ≤ R.b.length := by
  have := Rd.num_len (most := most) R
  unfold Rd.raw
  split
  · simp
  · simp; omega

theorem Rd.raw_le (most : Int) (R : Rd) : (R.raw most).1.length ≤ R.b.length := by
  have := Rd.num_len (most := most) R
  unfold Rd.raw
  split
  · simp
  · simp; omega

namespace Eng

/-- a text -/
abbrev sv (b : Bytes) : Value := .string ⟨b.toArray⟩

section
variable {P : Program} {F : Hp} {l : Fr} {H : List HA} {C : Fr → List HA → Prop} {es : List EG} {i d : Nat} {c : Bool}

/-- a text's bytes -/
theorem Ops.cvSB {x : Operand} {T : TypeId} {bs : Bytes} (hx : get l x = some (sv bs))
    (k : ∀ b c sp, bs.length ≤ c → Ops P F es ((d, .slice (some ⟨b, 0, none⟩) bs.length c) :: l) (.pt b (.cells (bvs bs ++ sp).toArray T (c, c + 1)) :: H) C) : Ops P F (EG.mk i (some d) none false (.cvSB T x) :: es) l H C :=
  Ops.busy (R := fun v H2 => ∃ b c sp, bs.length ≤ c ∧ v = .slice (some ⟨b, 0, none⟩) bs.length c ∧ H2 = .pt b (.cells (bvs bs ++ sp).toArray T (c, c + 1)) :: H)
    (fun F' ex w h ρ a q f => ⟨⟨bs.toArray⟩, a _ _ hx, fun c hc => ⟨_, _, ⟨w.heap.size, c, List.replicate (c - bs.length) (.int .u8 0), by simpa [ByteArray.size] using hc, by simp [ByteArray.size], by simp [bvs, bv, ByteArray.size]⟩,
      seps_new _ q f.drew.fresh.1, f.drew.new _, (Keeps.drew w).trans (Keeps.newBlk _ _)⟩⟩)
    fun v H2 ⟨b, c, sp, hc, e1, e2⟩ => by subst e1; subst e2; exact k b c sp hc
end

theorem row_shows {F : Hp} {H : List HA} {v : Value} {b : Bytes} (m : RowP v b ∈ H) : ∀ w h, seps H h → Fits F h w → shows w 1 b.length v (bvs b) ∧ ∃ a c, v = .slice a b.length c := by
  intro w h q f
  obtain ⟨x, y, sp, G, ⟨a, c, rfl, ⟨h1, _⟩ | ⟨k, o, L, T, ha, hl, ht, rfl⟩⟩, qG⟩ := seps_mem m q
  · subst h1
    refine ⟨?_, a, c, rfl⟩
    cases a <;> simp [shows, bvs]
  · refine ⟨?_, a, c, rfl⟩
    subst ha
    exact .inr ⟨rfl, L, T, (0, 0), f.own _ _ (sp.left (seps_mem_pt m0 qG)), by simpa using hl, by rw [Nat.mul_one]; exact ht.symm⟩

section
variable {P : Program} {F : Hp} {l : Fr} {H : List HA} {C : Fr → List HA → Prop} {es : List EG} {i d : Nat} {c : Bool}
/-- a text of bytes that are owned -/
theorem Ops.cvBSO {x : Operand} {v : Value} {bs : Bytes} (hx : get l x = some v) (m : RowP v bs ∈ H) (k : Ops P F es ((d, sv bs) :: l) H C) : Ops P F (EG.mk i (some d) none false (.cvBS x) :: es) l H C :=
  Ops.reads (fun ρ w h Q ag q f r => by
    obtain ⟨hs, a, c, rfl⟩ := row_shows m w h q f
    exact ⟨a, c, bs, ag _ _ hx, by rw [ag _ _ hx]; exact hs, r⟩) k
end

theorem own_of_pt {b n s : Nat} {T : TypeId} {xs : List Value} {H : List HA} (hl : xs.length = n * s) : ∀ h, seps (.pt b (.cells xs.toArray T (0, 0)) :: H) h → seps (OwnS (some ⟨b, 0, none⟩) n n s T xs :: H) h :=
  fold_grp (I := OwnI (some ⟨b, 0, none⟩) n n s T xs) (.cons s0 .nil) ⟨hl, .inr ⟨b, [], rfl, Nat.le_refl _, by simpa using hl, by simp⟩⟩

/-- a row that is owned, as a slice -/
theorem row_of_own {a : Option Addr} {n c : Nat} {T : TypeId} {bs : Bytes} {H : List HA} : ∀ h, seps (OwnS a n c 1 T (bvs bs) :: H) h → seps (RowP (.slice a n c) bs :: H) h := by
  intro h q
  obtain ⟨x, y, sp, ⟨G, hG, qG⟩, qr⟩ := q
  exact ⟨x, y, sp, ⟨G, hG.row.2, qG⟩, qr⟩

attribute [local irreducible] Ops Segs Run Spec

theorem rec_number_own (n : Nat) (hn : n < 4294967296) (F : Hp) : Spec Tryz.prog 201 [.int .u32 n].toArray F [] fun v H => ∃ a, v = .slice a 4 4 ∧ H = [OwnS a 4 4 1 5 (bvs (le4 n))] :=
  (rec_number n hn F).post fun v H h ⟨b, h1, h2⟩ q => ⟨_, ⟨_, h1, rfl⟩, own_of_pt (H := []) (n := 4) (s := 1) (by simp [bvs_len, le4_len]) h (by subst h2; exact q)⟩

theorem rec_Raw (v : Value) (bs : Bytes) (F : Hp) (hb : RdB F v bs) (hn : bs.length ≤ 1099511627) : Spec Tryz.prog 158 [v].toArray F [] fun r H => H = [RowP r (raw bs)] := by
  have hlen := hb.len
  have hsh := fun H => hb.shows (H := H)
  have hwr : IntKind.u32.wrap (bs.length : Int) = ((bs.length : Nat) : Int) := by rw [wrap_u32 (by omega) (by omega)]
  obtain ⟨oa, oc, rfl, hbs⟩ := hb
  refine Spec.enterC (n := 9) Tryz.func158 rfl (by simp) (by kernel_rfl) fun ec hc => ?_
  cbv at hc
  injection hc with hc
  subst hc
  simp only [argFr, Nat.reduceAdd]
  refine go ?_
  refine Ops.pE (v' := .int .u32 bs.length) rfl (by rw [hwr]) ?_
  refine Ops.call1 rfl .nil (fun F' e kn => rec_number_own bs.length (by omega) F') ?_
  rintro v G ⟨a, rfl, rfl⟩
  simp only [List.cons_append, List.nil_append]
  refine go ?_
  refine Ops.app rfl rfl rfl s0 (hsh _) (bvs_one bs) (by rw [bvs_len]; simp) (by simp) (by omega) fun a' c' => ?_
  refine go ?_
  exact Run.ret1 Tryz.func158 (H' := [RowP (.slice a' (4 + bs.length) c') (raw bs)]) rfl rfl (fun h q => row_of_own (bs := raw bs) h (by rw [raw, bvs_app]; exact q)) rfl

theorem rec_Text (bs : Bytes) (F : Hp) (hn : bs.length ≤ 1099511627) : Spec Tryz.prog 157 [sv bs].toArray F [] fun r H => H = [RowP r (raw bs)] := by
  refine Spec.enterC (n := 6) Tryz.func157 rfl (by simp) (by kernel_rfl) fun ec hc => ?_
  cbv at hc
  injection hc with hc
  subst hc
  simp only [argFr, Nat.reduceAdd]
  refine go ?_
  refine Ops.cvSB (bs := bs) rfl fun b c sp hc => ?_
  refine Ops.call1 rfl .nil (fun F' e kn => rec_Raw _ bs F' (rdB_of (o := 0) (kn _ _ m0) (by simp [bvs_len]) (by simp [← bvs_len bs])) hn) ?_
  rintro v G rfl
  simp only [List.cons_append, List.nil_append]
  refine go ?_
  exact Run.ret1 Tryz.func157 rfl rfl (fun h q => take_sub (.cons s0 .nil) h q) rfl

theorem rec_Reader_More (r : Nat) (R : Rd) (F : Hp) : Spec Tryz.prog 142 [.pointer (some ⟨r, 0, none⟩)].toArray F [RdP r R] fun v H => v = .bool (decide (R.b ≠ [])) ∧ H = [RdP r R] := by
  have hd : decide ((0 : Int) < (R.b.length : Nat)) = decide (R.b ≠ []) := by
    cases R.b <;> simp <;> omega
  refine Spec.enterC (n := 9) Tryz.func142 rfl (by simp) (by kernel_rfl) fun ec hc => ?_
  cbv at hc
  injection hc with hc
  subst hc
  simp only [argFr, Nat.reduceAdd]
  refine Run.open_ s0 fun G hG => ?_
  obtain ⟨a, c, ⟨hb, rfl⟩ | ⟨b, o, L, T, fz, ha, hl, hlc, ht, rfl⟩⟩ := hG
  · simp only [List.cons_append, List.nil_append]
    refine go ?_
    exact Run.ret1 Tryz.func142 rfl rfl (fold_grp (.cons s0 .nil) ⟨a, c, .inl ⟨hb, rfl⟩⟩) ⟨by rw [← hd], rfl⟩
  · simp only [List.cons_append, List.nil_append]
    refine go ?_
    exact Run.ret1 Tryz.func142 rfl rfl (fold_grp (.cons s0 (.cons s0 .nil)) ⟨a, c, .inr ⟨b, o, L, T, fz, ha, hl, hlc, ht, rfl⟩⟩) ⟨by rw [← hd], rfl⟩

theorem rec_Reader_Done (r : Nat) (R : Rd) (F : Hp) : Spec Tryz.prog 140 [.pointer (some ⟨r, 0, none⟩)].toArray F [RdP r R] fun v H => v = .bool R.done ∧ H = [RdP r R] := by
  have hd : decide (((R.b.length : Nat) : Int) = 0) = decide (R.b = []) := by
    cases R.b <;> simp
    omega
  have hd2 : R.done = (!R.bad && decide (R.b = [])) := rfl
  refine Spec.enterC (n := 16) Tryz.func140 rfl (by simp) (by kernel_rfl) fun ec hc => ?_
  cbv at hc
  injection hc with hc
  subst hc
  simp only [argFr, Nat.reduceAdd]
  refine Run.open_ s0 fun G hG => ?_
  obtain ⟨b, bad⟩ := R
  obtain ⟨a, c, ⟨hb, rfl⟩ | ⟨b2, o, L, T, fz, ha, hl, hlc, ht, rfl⟩⟩ := hG
  · simp only [List.cons_append, List.nil_append]
    cases bad
    · refine go ?_
      exact Run.ret1 Tryz.func140 rfl rfl (fold_grp (.cons s0 .nil) ⟨a, c, .inl ⟨hb, rfl⟩⟩) ⟨by rw [hd2, ← hd]; rfl, rfl⟩
    · refine go ?_
      exact Run.ret1 Tryz.func140 rfl rfl (fold_grp (.cons s0 .nil) ⟨a, c, .inl ⟨hb, rfl⟩⟩) ⟨by rw [hd2]; rfl, rfl⟩
  · simp only [List.cons_append, List.nil_append]
    cases bad
    · refine go ?_
      exact Run.ret1 Tryz.func140 rfl rfl (fold_grp (.cons s0 (.cons s0 .nil)) ⟨a, c, .inr ⟨b2, o, L, T, fz, ha, hl, hlc, ht, rfl⟩⟩) ⟨by rw [hd2, ← hd]; rfl, rfl⟩
    · refine go ?_
      exact Run.ret1 Tryz.func140 rfl rfl (fold_grp (.cons s0 (.cons s0 .nil)) ⟨a, c, .inr ⟨b2, o, L, T, fz, ha, hl, hlc, ht, rfl⟩⟩) ⟨by rw [hd2]; rfl, rfl⟩

theorem rec_Reader_Err (r : Nat) (R : Rd) (F : Hp) : Spec Tryz.prog 196 [.pointer (some ⟨r, 0, none⟩)].toArray F [RdP r R] fun v H => v = .int .i64 (if R.done then 0 else 4) ∧ H = [RdP r R] := by
  refine Spec.enterC (n := 6) Tryz.func196 rfl (by simp) (by kernel_rfl) fun ec hc => ?_
  cbv at hc
  injection hc with hc
  subst hc
  simp only [argFr, Nat.reduceAdd]
  refine go ?_
  refine Ops.call1 rfl (.cons s0 .nil) (fun F' e kn => rec_Reader_Done r R F') ?_
  rintro v G ⟨rfl, rfl⟩
  simp only [List.cons_append, List.nil_append]
  cases hd : R.done
  · refine go ?_
    refine Run.condT rfl ?_
    refine go ?_
    exact Run.ret1 Tryz.func196 rfl rfl (fun h q => q) ⟨rfl, rfl⟩
  · refine go ?_
    refine Run.condF rfl ?_
    refine go ?_
    exact Run.ret1 Tryz.func196 rfl rfl (fun h q => q) ⟨rfl, rfl⟩

theorem rec_Reader_Truth (r : Nat) (R : Rd) (hR : R.b.length ≤ 1099511627776) (F : Hp) : Spec Tryz.prog 143 [.pointer (some ⟨r, 0, none⟩)].toArray F [RdP r R] fun v H => v = .bool (decide ((R.num 1).1 = 1)) ∧ H = [RdP r (R.num 1).2] := by
  refine Spec.enterC (n := 6) Tryz.func143 rfl (by simp) (by kernel_rfl) fun ec hc => ?_
  cbv at hc
  injection hc with hc
  subst hc
  simp only [argFr, Nat.reduceAdd]
  refine go ?_
  refine Ops.call1 rfl (.cons s0 .nil) (fun F' e kn => rec_Reader_Num r R 1 hR F') ?_
  rintro v G ⟨rfl, rfl⟩
  simp only [List.cons_append, List.nil_append]
  refine go ?_
  exact Run.ret1 Tryz.func143 rfl rfl (fun h q => q) ⟨rfl, rfl⟩

theorem rec_Reader_Raw (r : Nat) (R : Rd) (most : Int) (hR : R.b.length ≤ 1099511627) (F : Hp) :
    Spec Tryz.prog 141 [.pointer (some ⟨r, 0, none⟩), .int .i64 most].toArray F [RdP r R] fun v H => H = [RowP v (R.raw most).1, RdP r (R.raw most).2] := by
  have hn := Rd.num_nonneg most R
  have hl := Rd.num_len (most := most) R
  have hraw : R.raw most = if (R.num most).2.b.length < (R.num most).1.toNat then ([], ⟨[], true⟩)
    else ((R.num most).2.b.take (R.num most).1.toNat, ⟨(R.num most).2.b.drop (R.num most).1.toNat, (R.num most).2.bad⟩) := rfl
  refine Spec.enterC (n := 40) Tryz.func141 rfl (by simp) (by kernel_rfl) fun ec hc => ?_
  cbv at hc
  injection hc with hc
  subst hc
  simp only [argFr, Nat.reduceAdd]
  refine go ?_
  refine Ops.call1 rfl (.cons s0 .nil) (fun F' e kn => rec_Reader_Num r R most (by omega) F') ?_
  rintro v G ⟨rfl, rfl⟩
  simp only [List.cons_append, List.nil_append]
  generalize R.num most = x at *
  obtain ⟨n, R1⟩ := x
  dsimp only at *
  obtain ⟨n, rfl⟩ := Int.eq_ofNat_of_zero_le hn.1
  rw [Int.toNat_natCast] at hraw
  rw [hraw]
  clear hraw
  refine go1 ?_
  refine Ops.nil (Segs.nil ?_)
  have empty : ∀ {H : List HA} {a : Option Addr} {c : Nat}, ∀ h, seps H h → seps (RowP (.slice none 0 0) [] :: H) h := fun h q => ⟨noHp, h, Split.empty h, ⟨[], ⟨none, 0, rfl, .inl ⟨rfl, rfl⟩⟩, trivial⟩, q⟩
  refine Run.open_ s0 fun G hG => ?_
  obtain ⟨a, c, ⟨hb, rfl⟩ | ⟨b, o, L, T, fz, rfl, hlo, hlc, ht, rfl⟩⟩ := hG
  · simp only [List.cons_append, List.nil_append]
    obtain ⟨b1, bad⟩ := R1
    dsimp only at *
    subst hb
    refine go ?_
    refine Run.condD rfl (fun h => ?_) (fun h => ?_)
    · rw [if_pos (by simp at h ⊢; omega)]
      refine go ?_
      refine Run.ret1 Tryz.func141 (H' := [RowP (.slice none 0 0) [], RdP r ⟨[], true⟩]) rfl rfl (fun h q => empty (a := none) (c := 0) h (fold_grp (I := RdI r ⟨[], true⟩) (.cons s0 .nil) ⟨none, 0, .inl ⟨rfl, rfl⟩⟩ h q)) rfl
    · have h0 : n = 0 := by simp at h; omega
      subst h0
      rw [if_neg (by simp)]
      refine go ?_
      refine Ops.slX (h1 := 0) (l1 := 0) rfl rfl rfl (by omega) (by omega) fun a' => ?_
      refine Ops.appN (ys := []) (m := 0) rfl rfl rfl (fun w h q f => by cases a' <;> simp [shows]) (by intro v hv; cases hv) rfl (by simp) (by omega) fun a2 c2 => ?_
      refine go ?_
      refine Ops.slX (h1 := 0) (l1 := 0) rfl rfl rfl (by omega) (by omega) fun a3 => ?_
      refine go ?_
      refine Run.ret1 Tryz.func141 (H' := [RowP (.slice a2 0 c2) [], RdP r ⟨[], bad⟩]) rfl rfl (fun h q => ?_) rfl
      have q2 := fold_grp (I := RdI r ⟨[], bad⟩) (.cons s1 .nil) ⟨a3, _, .inl ⟨rfl, rfl⟩⟩ h q
      exact row_of_own (bs := []) h (take_sub (.cons s1 (.cons s0 .nil)) h q2)
  · simp only [List.cons_append, List.nil_append]
    refine go ?_
    refine Run.condD rfl (fun h => ?_) (fun h => ?_)
    · rw [if_pos (by omega)]
      refine go ?_
      exact Run.ret1 Tryz.func141 (H' := [RowP (.slice none 0 0) [], RdP r ⟨[], true⟩]) rfl rfl (fun h q => empty (a := none) (c := 0) h (take_sub (.cons s0 .nil) h (fold_grp (I := RdI r ⟨[], true⟩) (.cons s0 .nil) ⟨none, 0, .inl ⟨rfl, rfl⟩⟩ h q))) rfl
    · rw [if_neg (by omega)]
      obtain ⟨b1, bad⟩ := R1
      dsimp only at *
      have hle : n ≤ b1.length := by omega
      have htk : (L.drop o).take n = bvs (b1.take n) := by
        have := congrArg (List.take n) ht
        rw [List.take_take, Nat.min_eq_left hle] at this
        rw [this]; simp [bvs, List.map_take]
      have hlt : (b1.take n).length = n := by rw [List.length_take]; omega
      refine go ?_
      refine Ops.slS (h1 := n) (l1 := 0) rfl (optG_n rfl) rfl (by omega) (by omega) fun a' ha' => ?_
      simp only [Nat.zero_mul, Nat.add_zero, Nat.sub_zero] at ha' ⊢
      refine Ops.appN (ys := bvs (b1.take n)) (m := n) rfl rfl rfl (fun w h q f => ?_) (bvs_one _) (by rw [bvs_len, hlt]; simp) (by simp) (by omega) fun a2 c2 => ?_
      · rcases ha' with ha' | ha'
        · subst ha'
          exact shows_pt m1 (by simp; omega) (by simp only [List.length_singleton, Nat.mul_one]; exact htk.symm) w h q f
        · subst ha'
          cases a' <;> simp [shows, bvs]
      refine go ?_
      refine Ops.slS (l1 := n) (h1 := b1.length) rfl rfl (optG_n rfl) (by omega) (by omega) fun a3 ha3 => ?_
      refine go ?_
      refine Run.ret1 Tryz.func141 (H' := [RowP (.slice a2 n c2) (b1.take n), RdP r ⟨b1.drop n, bad⟩]) rfl rfl (fun h q => ?_) rfl
      have hdl : (b1.drop n).length = b1.length - n := by simp
      have q2 : seps (RdP r ⟨b1.drop n, bad⟩ :: [OwnS a2 n c2 1 5 (bvs (b1.take n))]) h := by
        by_cases hz : b1.length - n = 0
        · have hnil : b1.drop n = [] := List.length_eq_zero_iff.1 (by omega)
          exact fold_grp (I := RdI r ⟨b1.drop n, bad⟩) (.cons s1 .nil) ⟨a3, c - n, .inl ⟨hnil, by simp only [hdl]; rfl⟩⟩ h (take_sub (.cons s0 (.cons s0 .nil)) h q)
        · have ha4 : a3 = some ⟨b, o + n, none⟩ := by
            rcases ha3 with x | x
            · rw [x, Nat.mul_one]
            · exact absurd x hz
          subst ha4
          refine fold_grp (I := RdI r ⟨b1.drop n, bad⟩) (.cons s1 (.cons s1 .nil)) ⟨_, c - n, .inr ⟨b, o + n, L, T, fz, rfl, ?_, ?_, ?_, ?_⟩⟩ h q
          · simp only [hdl]; omega
          · simp only [hdl]; omega
          · have := congrArg (fun l => l.drop n) ht
            simp only [List.drop_take, List.drop_drop] at this
            simp only [hdl]
            rw [this]; simp [bvs, List.map_drop]
          · simp only [hdl]; rfl
      exact row_of_own (bs := b1.take n) h (take_sub (.cons s1 (.cons s0 .nil)) h q2)

theorem row_text {v : Value} {b : Bytes} {H : List HA} : ∀ h, seps (RowP v b :: H) h → ∃ a c, v = .slice a b.length c := by
  rintro h ⟨x, y, sp, ⟨G, ⟨a, c, rfl, _⟩, _⟩, _⟩
  exact ⟨a, c, rfl⟩

theorem rec_Reader_Text (r : Nat) (R : Rd) (most : Int) (hR : R.b.length ≤ 1099511627) (F : Hp) :
    Spec Tryz.prog 144 [.pointer (some ⟨r, 0, none⟩), .int .i64 most].toArray F [RdP r R] fun v H => v = sv (R.raw most).1 ∧ H = [RdP r (R.raw most).2] := by
  refine Spec.enterC (n := 9) Tryz.func144 rfl (by simp) (by kernel_rfl) fun ec hc => ?_
  cbv at hc
  injection hc with hc
  subst hc
  simp only [argFr, Nat.reduceAdd]
  refine go ?_
  refine Ops.call1 rfl (.cons s0 .nil) (fun F' e kn => rec_Reader_Raw r R most hR F') ?_
  rintro v G rfl
  simp only [List.cons_append, List.nil_append]
  generalize R.raw most = x at *
  obtain ⟨b, R1⟩ := x
  dsimp only
  refine go ?_
  refine Ops.cvBSO rfl m0 ?_
  refine go ?_
  exact Run.ret1 Tryz.func144 rfl rfl (fun h q => take_sub (.cons s1 .nil) h q) ⟨rfl, rfl⟩
end Eng
end Go.Proofs.YtnfomoeicgdkkaaGreatDoor

/- Texts as lists of bytes: what is asked of them; a path's names. -/
set_option linter.unusedSimpArgs false
set_option linter.unusedVariables false
set_option maxRecDepth 1000000
namespace Go.Proofs.YtnfomoeicgdkkaaGreatDoor

def hasPre (s p : Bytes) : Bool := decide (p.length ≤ s.length) && decide (s.take p.length = p)

def signB (b : UInt8) : Bool := decide (97 ≤ b.toNat) && decide (b.toNat ≤ 122) || decide (48 ≤ b.toNat) && decide (b.toNat ≤ 57) || decide (b.toNat = 45) || decide (b.toNat = 46) || decide (b.toNat = 95)

def nameOk (s : Bytes) : Bool := if s = [] then false else if 12 < s.length then false else if s = [46] then false else if s = [46, 46] then false else s.all signB

/-- a text's parts between slashes -/
def segs : Bytes → List Bytes
  | [] => [[]]
  | c :: r => if c = 47 then [] :: segs r else match segs r with
    | [] => [[c]]
    | x :: xs => (c :: x) :: xs

def splitP (s : Bytes) : Option (List Bytes) :=
  if s = [47] then some [] else if 40 < s.length then none else if hasPre s [47] = false then none else
    if 5 < (segs (s.drop 1)).length then none else if (segs (s.drop 1)).all nameOk = true then some (segs (s.drop 1)) else none

theorem segs_ne (s : Bytes) : segs s ≠ [] := by
  cases s with
  | nil => simp [segs]
  | cons c r =>
    simp only [segs]
    split
    · simp
    · split <;> simp

theorem segs_lib : ∀ s : Bytes, Lib.splitK [47] 0 (Lib.count s [47]) s = segs s := by
  intro s
  induction s with
  | nil => rfl
  | cons c r ih =>
    by_cases h : c = 47
    · subst h
      rw [Lib.count_cons_eq, Nat.add_comm]
      simp only [Lib.splitK, segs, Lib.index]
      simp [ih]
    · rw [Lib.count_cons_ne _ _ _ h]
      simp only [segs, if_neg h]
      rw [← ih]
      cases hk : Lib.count r [47] with
      | zero => simp [Lib.splitK]
      | succ k =>
        have hp : List.isPrefixOf [47] (c :: r) = false := by simp [List.isPrefixOf]; exact fun e => h e.symm
        simp only [Lib.splitK, Lib.index, hp]
        have hge := Lib.index_ge r [47]
        by_cases hi : Lib.index r [47] = -1
        · simp [hi]
        · have h1 : (Lib.index r [47] == -1) = false := by simpa using hi
          have h2 : (Lib.index r [47] + 1 == -1) = false := by simp; omega
          simp only [Bool.false_eq_true, if_false, h1, h2, Nat.add_zero]
          have h3 : (Lib.index r [47] + 1).toNat = (Lib.index r [47]).toNat + 1 := by omega
          rw [h3]
          simp

theorem segs_libB (s : Bytes) : (Lib.splitB ⟨#[47]⟩ 0 (Lib.countB ⟨s.toArray⟩ ⟨#[47]⟩) ⟨s.toArray⟩).map (·.data.toList) = segs s := by
  rw [Lib.splitB_data]
  exact segs_lib s

namespace Eng

theorem beq_sv (a b : Bytes) : ((⟨a.toArray⟩ : ByteArray).toList == (⟨b.toArray⟩ : ByteArray).toList) = decide (a = b) := by
  rw [ByteArray.toList_eq, ByteArray.toList_eq]
  show (a == b) = _
  rw [Bool.eq_iff_iff]; simp

section
variable {P : Program} {F : Hp} {l : Fr} {H : List HA} {C : Fr → List HA → Prop} {es : List EG} {i d : Nat} {c : Bool}

/-- a piece of a text -/
theorem Ops.slT {x : Operand} {lo hi : Option Operand} {s : Bytes} {l1 h1 : Nat} (hx : get l x = some (sv s)) (hh : optG l hi s.length = some h1) (hl : optG l lo 0 = some l1) (h2 : l1 ≤ h1) (h3 : h1 ≤ s.length)
    (k : Ops P F es ((d, sv ((s.take h1).drop l1)) :: l) H C) : Ops P F (EG.mk i (some d) none c (.slT x lo hi) :: es) l H C :=
  Ops.any (fun ρ w Q ag _ q => by
    refine ⟨⟨s.toArray⟩, l1, h1, ag _ _ hx, ?_, optG_sound ag hl, h2, by simpa [ByteArray.size] using h3, ?_⟩
    · have := optG_sound ag hh
      simpa [ByteArray.size] using this
    · have : (⟨s.toArray⟩ : ByteArray).extract l1 h1 = ⟨((s.take h1).drop l1).toArray⟩ := by
        apply ByteArray.ext
        simp [ByteArray.data_extract, List.drop_take]
      rw [this]; exact q) k

/-- a text behind another one -/
theorem Ops.cat {x y : Operand} {a b : Bytes} (hx : get l x = some (sv a)) (hy : get l y = some (sv b)) (h : a.length + b.length < 9223372036854775808) (k : Ops P F es ((d, sv (a ++ b)) :: l) H C) :
    Ops P F (EG.mk i (some d) none c (.bin .add x y) :: es) l H C := by
  refine Ops.pE (v := .string ((⟨a.toArray⟩ : ByteArray) ++ ⟨b.toArray⟩)) ?_ ?_ k
  · simp only [pv, hx, hy, binVal]
    rw [if_neg]
    simp [ByteArray.size, IntKind.max, IntKind.signed, IntKind.bits]
    omega
  · congr 1
end

attribute [local irreducible] Ops Segs Run Spec

theorem stringslite_HasPrefix (s p : Bytes) (F : Hp) : Spec Tryz.prog 236 [sv s, sv p].toArray F [] fun v H => v = .bool (hasPre s p) ∧ H = [] := by
  refine Spec.enterC (n := 18) Tryz.func236 rfl (by simp) (by kernel_rfl) fun ec hc => ?_
  cbv at hc
  injection hc with hc
  subst hc
  simp only [argFr, Nat.reduceAdd]
  by_cases h : p.length ≤ s.length
  · refine go ?_
    have e : decide (((⟨p.toArray⟩ : ByteArray).size : Int) ≤ ((⟨s.toArray⟩ : ByteArray).size : Int)) = true := by simp [ByteArray.size]; exact h
    simp only [e]
    refine go ?_
    refine Ops.slT (l1 := 0) (h1 := p.length) rfl (optG_n rfl) rfl (by omega) h ?_
    refine go ?_
    simp only [beq_sv, List.drop_zero]
    refine Run.ret1 Tryz.func236 rfl rfl (fun h q => q) ⟨?_, rfl⟩
    simp [pickV, hasPre, h]
  · refine go ?_
    have e : decide (((⟨p.toArray⟩ : ByteArray).size : Int) ≤ ((⟨s.toArray⟩ : ByteArray).size : Int)) = false := by simp [ByteArray.size]; omega
    simp only [e]
    refine go ?_
    refine Run.ret1 Tryz.func236 rfl rfl (fun h q => q) ⟨?_, rfl⟩
    simp [pickV, hasPre, h]
    rfl

theorem strings_HasPrefix (s p : Bytes) (F : Hp) : Spec Tryz.prog 216 [sv s, sv p].toArray F [] fun v H => v = .bool (hasPre s p) ∧ H = [] := by
  refine Spec.enterC (n := 8) Tryz.func216 rfl (by simp) (by kernel_rfl) fun ec hc => ?_
  cbv at hc
  injection hc with hc
  subst hc
  simp only [argFr, Nat.reduceAdd]
  refine go ?_
  refine Ops.call1 rfl .nil (fun F' e kn => stringslite_HasPrefix s p F') ?_
  rintro v G ⟨rfl, rfl⟩
  simp only [List.nil_append]
  refine go ?_
  exact Run.ret1 Tryz.func216 rfl rfl (fun h q => q) ⟨rfl, rfl⟩

theorem path_sign (b : Int) (F : Hp) : Spec Tryz.prog 238 [.int .i32 b].toArray F [] fun v H => v = .bool (decide (97 ≤ b) && decide (b ≤ 122) || decide (48 ≤ b) && decide (b ≤ 57) || decide (b = 45) || decide (b = 46) || decide (b = 95)) ∧ H = [] := by
  refine Spec.enterC (n := 29) Tryz.func238 rfl (by simp) (by kernel_rfl) fun ec hc => ?_
  cbv at hc
  injection hc with hc
  subst hc
  simp only [argFr, Nat.reduceAdd]
  refine go ?_
  iterate 12
    all_goals try (first | (refine Ops.gD rfl ?_ ?_ <;> (intro e; simp only [e]; refine go ?_)) | (refine Ops.gnU rfl ?_; refine go ?_))
  all_goals simp only [decide_eq_true_eq, decide_eq_false_iff_not] at *
  all_goals refine Run.ret1 Tryz.func238 rfl rfl (fun h q => q) ⟨?_, rfl⟩
  all_goals (show Value.bool _ = Value.bool _; congr 1 <;> (rw [Bool.eq_iff_iff]; simp <;> omega))

theorem sign_high {r : Int} (h : 128 ≤ r) : (decide (97 ≤ r) && decide (r ≤ 122) || decide (48 ≤ r) && decide (r ≤ 57) || decide (r = 45) || decide (r = 46) || decide (r = 95)) = false := by
  simp; omega

theorem path_Name (s : Bytes) (F : Hp) : Spec Tryz.prog 218 [sv s].toArray F [] fun v H => v = .bool (nameOk s) ∧ H = [] := by
  have hret : ∀ {K : List EI} {l0 : Fr} {F0 : Hp} {H : List HA}, nameOk s = false → look l0 2 = some (.bool false) → Run Tryz.prog 218 28 F0 (.code .ret :: K) l0 H (fun v H => v = .bool (nameOk s) ∧ H = []) := by
    intro K l0 F0 H hn h2
    exact Run.ret1 Tryz.func218 rfl h2 (H' := []) (fun h q => trivial) ⟨by rw [hn], rfl⟩
  have hsz : (⟨s.toArray⟩ : ByteArray).size = s.length := by simp [ByteArray.size]
  refine Spec.enterC (n := 28) Tryz.func218 rfl (by simp) (by kernel_rfl) fun ec hc => ?_
  cbv at hc
  injection hc with hc
  subst hc
  simp only [argFr, Nat.reduceAdd]
  refine go ?_
  simp only [beq_sv, hsz]
  refine Ops.gD rfl ?_ ?_ <;> (intro e0; simp only [e0]; refine go ?_)
  · refine Run.condT rfl ?_
    refine go ?_
    exact hret (by simp at e0; simp [nameOk, e0]) rfl
  refine Ops.gD rfl ?_ ?_ <;> (intro e1; simp only [e1]; refine go ?_)
  · refine Run.condT rfl ?_
    refine go ?_
    refine hret (by simp at e0 e1; simp [nameOk]; omega) rfl
  simp only [beq_sv]
  refine Ops.gD rfl ?_ ?_ <;> (intro e2; simp only [e2]; refine go ?_)
  · refine Run.condT rfl ?_
    refine go ?_
    refine hret (by simp at e2; subst e2; decide) rfl
  simp only [beq_sv]
  refine Run.condD (p := s = [46, 46]) rfl (fun h => ?_) (fun h => ?_)
  · refine go ?_
    refine hret (by subst h; decide) rfl
  simp only [decide_eq_true_eq, decide_eq_false_iff_not] at e0 e1 e2
  have hn : nameOk s = s.all signB := by unfold nameOk; rw [if_neg e0, if_neg (by omega), if_neg e2, if_neg h]
  refine go ?_
  refine Ops.rngS rfl fun b => ?_
  refine Ops.nil (Segs.nil ?_)
  refine Run.block (Run.loopI (ι := Nat) (fun x => s.length - x) (fun x => x ≤ s.length ∧ s.all signB = (s.drop x).all signB)
    (fun x => [(21, .pointer (some ⟨b, 0, none⟩)), (0, sv s)]) (fun x => [.pt b (.stringIter ⟨s.toArray⟩ x)]) 0 ⟨Nat.zero_le _, rfl⟩ (.cons rfl (.cons rfl .nil)) (fun _ h => h) ?_)
  rintro i ⟨hi, hall⟩ ih
  try dsimp only at hi hall ih ⊢
  have ihn := ih
  clear ih
  refine go ?_
  refine Ops.nxtS rfl u0 (fun hlt => ?_) (fun hge => ?_)
  · rw [hsz] at hlt
    have hget : s.drop i = s[i] :: s.drop (i + 1) := List.drop_eq_getElem_cons hlt
    rw [hget, List.all_cons] at hall
    have hai : ((⟨s.toArray⟩ : ByteArray)[i]'(by rw [hsz]; exact hlt)) = s[i] := rfl
    by_cases hlow : (s[i]).toNat < 128
    · have hd := decode_ascii ⟨s.toArray⟩ i (by rw [hsz]; exact hlt) (by rw [hai]; exact hlow)
      rw [hai] at hd
      rw [hd]
      dsimp only
      refine go ?_
      refine Run.condT rfl ?_
      refine go ?_
      refine Ops.call1 rfl .nil (fun F' e kn => path_sign _ F') ?_
      rintro v G ⟨rfl, rfl⟩
      simp only [List.nil_append]
      have hsg : (decide ((97 : Int) ≤ ((s[i]).toNat : Int)) && decide (((s[i]).toNat : Int) ≤ 122) || decide ((48 : Int) ≤ ((s[i]).toNat : Int)) && decide (((s[i]).toNat : Int) ≤ 57) || decide (((s[i]).toNat : Int) = 45) || decide (((s[i]).toNat : Int) = 46) || decide (((s[i]).toNat : Int) = 95)) = signB s[i] := by
        unfold signB
        rw [Bool.eq_iff_iff]; simp; omega
      rw [hsg]
      refine go ?_
      cases hb : signB s[i]
      · refine Run.condT rfl ?_
        refine go ?_
        exact hret (by rw [hn, hall, hb]; rfl) rfl
      · refine Run.condF rfl ?_
        rw [hb, Bool.true_and] at hall
        refine go ?_
        exact Run.lp (Run.again (ihn (i + 1) (by omega) ⟨by omega, hall⟩) (.cons rfl (.cons rfl .nil)) (fun h q => q))
    · have hd := decode_high ⟨s.toArray⟩ i (by rw [hsz]; exact hlt) (by rw [hai]; omega)
      generalize Utf8.decode ⟨s.toArray⟩ i = dd at *
      obtain ⟨r, wd⟩ := dd
      dsimp only at hd ⊢
      refine go ?_
      refine Run.condT rfl ?_
      refine go ?_
      refine Ops.call1 rfl .nil (fun F' e kn => path_sign _ F') ?_
      rintro v G ⟨rfl, rfl⟩
      simp only [List.nil_append]
      rw [sign_high (by omega)]
      refine go ?_
      refine Run.condT rfl ?_
      refine go ?_
      refine hret ?_ rfl
      have : signB s[i] = false := by unfold signB; simp; omega
      rw [hn, hall, this]; rfl
  · rw [hsz] at hge
    have : i = s.length := by omega
    subst this
    refine go ?_
    refine Run.condF rfl (Run.exit rfl ?_)
    refine go ?_
    refine Run.ret1 Tryz.func218 rfl rfl (H' := []) (fun h q => trivial) ⟨?_, rfl⟩
    rw [hn, hall]; simp
end Eng
end Go.Proofs.YtnfomoeicgdkkaaGreatDoor
