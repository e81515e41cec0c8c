/- The rules by which a run is stepped through. -/
import Derived.Test.YtbhlolmglieehaaEngP
set_option linter.unusedSimpArgs false
set_option linter.unusedVariables false
namespace Go.Proofs.Ytbhlolmglieehaa
namespace Eng

def putD (d : Option Nat) (l : Fr) (v : Value) : Fr := match d with
  | some d => (d, v) :: l
  | none => l

theorem put_mk {i : Nat} {d : Option Nat} {g : Option (Nat × Bool)} {c : Bool} {op : EOp} (l : Fr) (v : Value) : (EG.mk i d g c op).put l v = putD d l v := by
  cases d <;> rfl

def pickV (t : Bool) (x y : Value) : Value := match x, y with
  | .bool p, .bool q => .bool (bif t then p else q)
  | x, y => if t then x else y

theorem pickV_eq (t : Bool) (x y : Value) : pickV t x y = if t then x else y := by
  unfold pickV; split
  · cases t <;> rfl
  · rfl

/-- the value of an operation that asks nothing of the world -/
def pv (l : Fr) : EOp → Option Value
  | .mv x => get l x
  | .pick c a b => match get l c, get l a, get l b with
    | some (.bool t), some x, some y => some (pickV t x y)
    | _, _, _ => none
  | .nilc x => match get l x with
    | some (.pointer (some a)) => some (.pointer (some a))
    | _ => none
  | .off x k => match get l x with
    | some (.pointer (some ⟨b, o, none⟩)) => some (.pointer (some ⟨b, o + k, none⟩))
    | _ => none
  | .bin op x y => match get l x, get l y with
    | some a, some b => binVal op a b
    | _, _ => none
  | .eqv d neg x y => match get l x, get l y with
    | some a, some b => match eqVal d a b with
      | some t => some (.bool (if neg then !t else t))
      | none => none
    | _, _ => none
  | .un op x => match get l x with
    | some a => unVal op a
    | none => none
  | .cvI k x => match get l x with
    | some (.int _ n) => some (.int k (k.wrap n))
    | _ => none
  | .cvSS x => match get l x with
    | some (.string s) => some (.string s)
    | _ => none
  | .len x => match get l x with
    | some (.slice _ n _) => some (.int .i64 n)
    | _ => none
  | .lenT x => match get l x with
    | some (.string s) => some (.int .i64 s.size)
    | _ => none
  | .fld x o none => match get l x with
    | some (.agg ⟨cs⟩) => cs[o]?
    | _ => none
  | .fld x o (some n) => match get l x with
    | some (.agg ⟨cs⟩) => some (.agg ((cs.drop o).take n).toArray)
    | _ => none
  | .ext x i => match get l x with
    | some (.tuple ⟨vs⟩) => vs[i]?
    | _ => none
  | .mx2 x y => match get l x, get l y with
    | some (.int k a), some (.int _ b) => some (.int k (if b > a then b else a))
    | _, _ => none
  | .mn2 x y => match get l x, get l y with
    | some (.int k a), some (.int _ b) => some (.int k (if b < a then b else a))
    | _, _ => none
  | .mki T x => match get l x with
    | some v => some (.iface T v)
    | none => none
  | _ => none

theorem pv_sound {P : Program} {l : Fr} {op : EOp} {v : Value} (h : pv l op = some v) {ρ : Operand → Value} (a : Agrees l ρ) {w : World} {Q : Next → World → Prop} (q : Q (.value v) w) : op.wp P ρ w Q := by
  cases op <;> simp only [pv] at h
  case mv x => simp only [EOp.wp]; rw [a _ _ h]; exact q
  case pick c x y =>
    split at h
    · rename_i t x' y' h1 h2 h3
      cases h
      rw [pickV_eq] at q
      exact ⟨t, a _ _ h1, by rw [a _ _ h2, a _ _ h3]; exact q⟩
    · cases h
  case nilc x =>
    split at h
    · rename_i b h1; cases h; exact ⟨b, a _ _ h1, q⟩
    · cases h
  case off x k =>
    split at h
    · rename_i b o h1; cases h; exact ⟨_, a _ _ h1, by rw [add_mk]; exact q⟩
    · cases h
  case bin op x y =>
    split at h
    · rename_i b c h1 h2; exact ⟨v, by rw [a _ _ h1, a _ _ h2]; exact h, q⟩
    · cases h
  case eqv d neg x y =>
    split at h
    · rename_i b c h1 h2
      split at h
      · rename_i t h3; cases h; exact ⟨t, by rw [a _ _ h1, a _ _ h2]; exact h3, q⟩
      · cases h
    · cases h
  case un op x =>
    split at h
    · rename_i b h1; exact ⟨v, by rw [a _ _ h1]; exact h, q⟩
    · cases h
  case cvI k x =>
    split at h
    · rename_i k' n h1; cases h; exact ⟨k', n, a _ _ h1, q⟩
    · cases h
  case cvSS x =>
    split at h
    · rename_i n h1; cases h; exact ⟨n, a _ _ h1, q⟩
    · cases h
  case len x =>
    split at h
    · rename_i b n c h1; cases h; exact ⟨b, n, c, a _ _ h1, q⟩
    · cases h
  case lenT x =>
    split at h
    · rename_i b h1; cases h; exact ⟨b, a _ _ h1, q⟩
    · cases h
  case fld x o n =>
    cases n with
    | none =>
      simp only at h
      split at h
      · rename_i cs h1; exact ⟨cs, a _ _ h1, v, h, q⟩
      · cases h
    | some n =>
      simp only at h
      split at h
      · rename_i cs h1; cases h; exact ⟨cs, a _ _ h1, q⟩
      · cases h
  case ext x i =>
    split at h
    · rename_i vs h1; exact ⟨⟨vs⟩, v, a _ _ h1, by simpa using h, q⟩
    · cases h
  case mx2 x y =>
    split at h
    · rename_i k b k' c h1 h2; cases h; exact ⟨k, k', b, c, a _ _ h1, a _ _ h2, q⟩
    · cases h
  case mn2 x y =>
    split at h
    · rename_i k b k' c h1 h2; cases h; exact ⟨k, k', b, c, a _ _ h1, a _ _ h2, q⟩
    · cases h
  case mki T x =>
    split at h
    · rename_i b h1; cases h; simp only [EOp.wp]; rw [a _ _ h1]; exact q
    · cases h
  all_goals cases h

section
variable {P : Program} {F : Hp} {l : Fr} {H : List HA} {C : Fr → List HA → Prop} {es : List EG} {i d : Nat} {c : Bool} {op : EOp}

theorem Segs.nil (h : C l H) : Segs P F [] l H C := h
theorem Segs.one {r : List (List EG)} (h : Ops P F es l H fun l' H' => Segs P F r l' H' C) : Segs P F (es :: r) l H C := .inl h
theorem Segs.lend {r : List (List EG)} (S : List HA) {M : List HA} (t : Take H S M) (h : ∀ F', Ext F F' → Known S F' → Ops P F' es l M fun l' M' => Segs P F r l' (S ++ M') C) : Segs P F (es :: r) l H C :=
  .inr ⟨S, M, t, h⟩
theorem Ops.nil (h : C l H) : Ops P F [] l H C := h

/-- an operation of which it is known what it gives, in whatever world -/
theorem Ops.any {v : Value} (hv : ∀ ρ w (Q : Next → World → Prop), Agrees l ρ → (∀ b o, F b = some o → w.heap[b]? = some o) → Q (.value v) w → op.wp P ρ w Q) (k : Ops P F es ((d, v) :: l) H C) : Ops P F (EG.mk i (some d) none c op :: es) l H C := by
  rw [Ops.cons_eq]
  show Body P F (EG.mk i (some d) none c op) l H _
  unfold Body
  simp only [put_mk, putD]
  cases c with
  | true => exact ⟨v, fun w ρ a f => hv ρ w _ a f ⟨rfl, rfl⟩, k⟩
  | false => exact ⟨fun v' H' => v' = v ∧ H' = H, fun w h ρ a q f => hv ρ w _ a f.frm ⟨H, h, ⟨rfl, rfl⟩, q, f, Keeps.refl w⟩, fun v' H' ⟨e1, e2⟩ => by subst e1; subst e2; exact k⟩

theorem Ops.p {v : Value} (h : pv l op = some v) (k : Ops P F es ((d, v) :: l) H C) : Ops P F (EG.mk i (some d) none c op :: es) l H C :=
  Ops.any (fun _ _ _ a _ q => pv_sound h a q) k

/-- the same with the value put otherwise -/
theorem Ops.pE {v v' : Value} (h : pv l op = some v) (e : v = v') (k : Ops P F es ((d, v') :: l) H C) : Ops P F (EG.mk i (some d) none c op :: es) l H C := by
  subst e; exact Ops.p h k

theorem wrap_i64 {n : Int} (h1 : -9223372036854775808 ≤ n) (h2 : n < 9223372036854775808) : IntKind.i64.wrap n = n := by
  unfold IntKind.wrap; simp [IntKind.bits, IntKind.signed]; omega
theorem wrap_u8 {n : Int} (h1 : 0 ≤ n) (h2 : n < 256) : IntKind.u8.wrap n = n := by
  unfold IntKind.wrap; simp [IntKind.bits, IntKind.signed]; omega
theorem wrap_u32 {n : Int} (h1 : 0 ≤ n) (h2 : n < 4294967296) : IntKind.u32.wrap n = n := by
  unfold IntKind.wrap; simp [IntKind.bits, IntKind.signed]; omega
theorem wrap_u64 {n : Int} (h1 : 0 ≤ n) (h2 : n < 18446744073709551616) : IntKind.u64.wrap n = n := by
  unfold IntKind.wrap; simp [IntKind.bits, IntKind.signed]; omega

theorem Ops.add {x y : Operand} {a b : Int} (hx : get l x = some (.int .i64 a)) (hy : get l y = some (.int .i64 b)) (h : -9223372036854775808 ≤ a + b ∧ a + b < 9223372036854775808) (k : Ops P F es ((d, .int .i64 (a + b)) :: l) H C) :
    Ops P F (EG.mk i (some d) none c (.bin .add x y) :: es) l H C :=
  Ops.pE (v := .int .i64 (IntKind.i64.wrap (a + b))) (by simp only [pv, hx, hy, binVal, if_true]) (by rw [wrap_i64 h.1 h.2]) k
theorem Ops.sub {x y : Operand} {a b : Int} (hx : get l x = some (.int .i64 a)) (hy : get l y = some (.int .i64 b)) (h : -9223372036854775808 ≤ a - b ∧ a - b < 9223372036854775808) (k : Ops P F es ((d, .int .i64 (a - b)) :: l) H C) :
    Ops P F (EG.mk i (some d) none c (.bin .sub x y) :: es) l H C :=
  Ops.pE (v := .int .i64 (IntKind.i64.wrap (a - b))) (by simp only [pv, hx, hy, binVal, if_true]) (by rw [wrap_i64 h.1 h.2]) k
theorem Ops.mul {x y : Operand} {a b : Int} (hx : get l x = some (.int .i64 a)) (hy : get l y = some (.int .i64 b)) (h : -9223372036854775808 ≤ a * b ∧ a * b < 9223372036854775808) (k : Ops P F es ((d, .int .i64 (a * b)) :: l) H C) :
    Ops P F (EG.mk i (some d) none c (.bin .mul x y) :: es) l H C :=
  Ops.pE (v := .int .i64 (IntKind.i64.wrap (a * b))) (by simp only [pv, hx, hy, binVal, if_true]) (by rw [wrap_i64 h.1 h.2]) k

/-- an operation that owns what it turns -/
theorem Ops.busy {dd : Option Nat} {R : Value → List HA → Prop} (hb : BusyAt P F op l H R) (k : ∀ v H', R v H' → Ops P F es (putD dd l v) H' C) : Ops P F (EG.mk i dd none false op :: es) l H C := by
  rw [Ops.cons_eq]
  show Body P F (EG.mk i dd none false op) l H _
  unfold Body
  simp only [put_mk, Bool.false_eq_true, if_false]
  exact ⟨R, hb, k⟩

theorem Ops.gy {dd : Option Nat} {s : Nat} {want : Bool} {v : Value} (hl : look l s = some v) (hv : asB v = some want) (k : Ops P F (EG.mk i dd none c op :: es) l H C) : Ops P F (EG.mk i dd (some (s, want)) c op :: es) l H C := by
  rw [Ops.cons_eq] at k ⊢
  exact ⟨v, hl, fun _ => by simpa only [One, Body, put_mk] using k, fun x => absurd hv x⟩
theorem Ops.gn {dd : Option Nat} {s : Nat} {want : Bool} {v : Value} (hl : look l s = some v) (hv : asB v ≠ some want) (k : Ops P F es (putD dd l undef) H C) : Ops P F (EG.mk i dd (some (s, want)) c op :: es) l H C := by
  rw [Ops.cons_eq]
  exact ⟨v, hl, fun x => absurd x hv, fun _ => by simpa only [put_mk] using k⟩

theorem Ops.ldF {x : Operand} {b o : Nat} {L : List Value} {T : TypeId} {fz : Nat × Nat} {v : Value} (hx : get l x = some (.pointer (some ⟨b, o, none⟩))) (hF : F b = some (.cells L.toArray T fz)) (hv : L[o]? = some v)
    (k : Ops P F es ((d, v) :: l) H C) : Ops P F (EG.mk i (some d) none c (.ld1 x) :: es) l H C :=
  Ops.any (fun _ _ _ a f q => ⟨b, o, L, T, fz, v, a _ _ hx, f _ _ hF, hv, q⟩) k

theorem Ops.ldnF {x : Operand} {b o n : Nat} {L : List Value} {T : TypeId} {fz : Nat × Nat} (hx : get l x = some (.pointer (some ⟨b, o, none⟩))) (hF : F b = some (.cells L.toArray T fz)) (hv : o + n ≤ L.length)
    (k : Ops P F es ((d, .agg ((L.drop o).take n).toArray) :: l) H C) : Ops P F (EG.mk i (some d) none c (.ldn x n) :: es) l H C :=
  Ops.any (fun _ _ _ a f q => ⟨b, o, L, T, fz, a _ _ hx, f _ _ hF, hv, q⟩) k

/-- an operation that only reads what is owned -/
theorem Ops.reads {v : Value} (hv : ∀ ρ w h (Q : Next → World → Prop), Agrees l ρ → seps H h → Fits F h w → Q (.value v) w → op.wp P ρ w Q) (k : Ops P F es ((d, v) :: l) H C) : Ops P F (EG.mk i (some d) none false op :: es) l H C :=
  Ops.busy (R := fun v' H' => v' = v ∧ H' = H) (fun w h ρ a q f => hv ρ w h _ a q f ⟨H, h, ⟨rfl, rfl⟩, q, f, Keeps.refl w⟩) fun v' H' ⟨e1, e2⟩ => by subst e1; subst e2; exact k

theorem Ops.ld {x : Operand} {b o : Nat} {L : List Value} {T : TypeId} {fz : Nat × Nat} {v : Value} (hx : get l x = some (.pointer (some ⟨b, o, none⟩))) (m : HA.pt b (.cells L.toArray T fz) ∈ H) (hv : L[o]? = some v)
    (k : Ops P F es ((d, v) :: l) H C) : Ops P F (EG.mk i (some d) none false (.ld1 x) :: es) l H C :=
  Ops.reads (fun _ _ _ _ a q f r => ⟨b, o, L, T, fz, v, a _ _ hx, f.own _ _ (seps_mem_pt m q), hv, r⟩) k

theorem Ops.ldn {x : Operand} {b o n : Nat} {L : List Value} {T : TypeId} {fz : Nat × Nat} (hx : get l x = some (.pointer (some ⟨b, o, none⟩))) (m : HA.pt b (.cells L.toArray T fz) ∈ H) (hv : o + n ≤ L.length)
    (k : Ops P F es ((d, .agg ((L.drop o).take n).toArray) :: l) H C) : Ops P F (EG.mk i (some d) none false (.ldn x n) :: es) l H C :=
  Ops.reads (fun _ _ _ _ a q f r => ⟨b, o, L, T, fz, a _ _ hx, f.own _ _ (seps_mem_pt m q), hv, r⟩) k

theorem nofz (j : Nat) : (decide ((0, 0).1 ≤ j) && decide (j < (0, 0).2)) = false := by simp

theorem Ops.stn {dd : Option Nat} {x y : Operand} {b o n : Nat} {L vs : List Value} {T : TypeId} {v : Value} {H' : List HA} (hx : get l x = some (.pointer (some ⟨b, o, none⟩))) (hy : get l y = some v) (hvs : vcells v = vs) (hn : vs.length = n) (h1 : oneCells vs)
    (u : Upd H (.pt b (.cells L.toArray T (0, 0))) (.pt b (.cells (L.take o ++ vs ++ L.drop (o + n)).toArray T (0, 0))) H') (hl : o + n ≤ L.length) (h0 : vs ≠ [])
    (k : Ops P F es (putD dd l undef) H' C) : Ops P F (EG.mk i dd none false (.st x y n) :: es) l H C :=
  Ops.busy (R := fun v' H2 => v' = undef ∧ H2 = H')
    (fun w h ρ a q f => ⟨b, o, L, T, (0, 0), vs, a _ _ hx, f.own _ _ (seps_mem_pt u.mem q), by rw [a _ _ hy]; exact hvs, hn, h0, h1, hl, fun j _ _ => nofz j,
      ⟨H', _, ⟨rfl, rfl⟩, seps_upd u q, f.set (seps_mem_pt u.mem q), Keeps.setBlk w b _⟩⟩)
    fun v' H2 ⟨e1, e2⟩ => by subst e1; subst e2; exact k

theorem Ops.st {dd : Option Nat} {x y : Operand} {b o : Nat} {L : List Value} {T : TypeId} {v : Value} {H' : List HA} (hx : get l x = some (.pointer (some ⟨b, o, none⟩))) (hy : get l y = some v) (hvs : vcells v = [v]) (h1 : one v = true)
    (u : Upd H (.pt b (.cells L.toArray T (0, 0))) (.pt b (.cells (L.set o v).toArray T (0, 0))) H') (hl : o < L.length)
    (k : Ops P F es (putD dd l undef) H' C) : Ops P F (EG.mk i dd none false (.st x y 1) :: es) l H C := by
  refine Ops.stn hx hy hvs rfl (fun z hz => by simp at hz; subst hz; exact h1) (L := L) (o := o) (b := b) (T := T) (H' := H') ?_ hl (by simp) k
  have : L.take o ++ [v] ++ L.drop (o + 1) = L.set o v := by
    rw [List.set_eq_take_append_cons_drop, if_pos hl]; simp
  rw [this]; exact u

theorem Ops.box {x : Operand} {T : TypeId} {v : Value} {vs : List Value} (hx : get l x = some v) (hvs : vcells v = vs) (k : ∀ b, Ops P F es ((d, .pointer (some ⟨b, 0, none⟩)) :: l) (.pt b (.cells vs.toArray T (0, 0)) :: H) C) :
    Ops P F (EG.mk i (some d) none false (.box x T) :: es) l H C :=
  Ops.busy (R := fun v' H' => ∃ b, v' = .pointer (some ⟨b, 0, none⟩) ∧ H' = .pt b (.cells vs.toArray T (0, 0)) :: H)
    (fun w h ρ a q f => by
      simp only [EOp.wp]
      rw [a _ _ hx, hvs]
      exact ⟨_, _, ⟨_, rfl, rfl⟩, seps_new _ q f.fresh.1, f.new _, Keeps.newBlk w _⟩)
    fun v' H' ⟨b, e1, e2⟩ => by subst e1; subst e2; exact k b

theorem Ops.alloc {z : List Value} {T : TypeId} (k : ∀ b, Ops P F es ((d, .pointer (some ⟨b, 0, none⟩)) :: l) (.pt b (.cells z.toArray T (0, 0)) :: H) C) :
    Ops P F (EG.mk i (some d) none false (.alloc z T) :: es) l H C :=
  Ops.busy (R := fun v' H' => ∃ b, v' = .pointer (some ⟨b, 0, none⟩) ∧ H' = .pt b (.cells z.toArray T (0, 0)) :: H)
    (fun w h ρ a q f => ⟨_, _, ⟨_, rfl, rfl⟩, seps_new _ q f.fresh.1, f.new _, Keeps.newBlk w _⟩)
    fun v' H' ⟨b, e1, e2⟩ => by subst e1; subst e2; exact k b

def getL (l : Fr) (xs : List Operand) : Option (List Value) := match xs with
  | [] => some []
  | x :: r => match get l x, getL l r with
    | some v, some vs => some (v :: vs)
    | _, _ => none

theorem getL_sound {l : Fr} {ρ : Operand → Value} (a : Agrees l ρ) : ∀ {xs : List Operand} {vs : List Value}, getL l xs = some vs → xs.map ρ = vs := by
  intro xs
  induction xs with
  | nil => intro vs h; cases h; rfl
  | cons x r ih =>
    intro vs h
    simp only [getL] at h
    split at h
    · rename_i v vs' h1 h2; cases h; rw [List.map_cons, a _ _ h1, ih h2]
    · cases h

theorem Ops.call {dd : Option Nat} {g : FuncId} {args : List Operand} {vs : List Value} {Pre Rest : List HA} {R : Value → List HA → Prop} (ha : getL l args = some vs) (t : Take H Pre Rest)
    (sp : ∀ F', Ext F F' → Known Rest F' → Spec P g vs.toArray F' Pre R) (k : ∀ v G, R v G → Ops P F es (putD dd l v) (G ++ Rest) C) :
    Ops P F (EG.mk i dd none false (.call g args.toArray) :: es) l H C :=
  Ops.busy (R := fun v H' => ∃ G, R v G ∧ H' = G ++ Rest)
    (fun w h ρ a q f => by
      simp only [EOp.wp]
      have : args.toArray.map ρ = vs.toArray := by rw [← getL_sound a ha]; simp
      rw [this]
      refine (Spec.frame t sp w h q f).mono ?_
      rintro e w' ⟨v, H', h', he, r, q', f', kp⟩
      exact ⟨v, H', h', he, r, q', f', kp⟩)
    fun v H' ⟨G, r, e⟩ => by subst e; exact k v G r

/-- an index within a slice -/
theorem Ops.ixS {x y : Operand} {s : Nat} {b o n cp : Nat} {kk : IntKind} {j : Int} (hx : get l x = some (.slice (some ⟨b, o, none⟩) n cp)) (hy : get l y = some (.int kk j)) (h : 0 ≤ j ∧ j < (n : Int))
    (k : Ops P F es ((d, .pointer (some ⟨b, o + j.toNat * s, none⟩)) :: l) H C) : Ops P F (EG.mk i (some d) none c (.ixS x y s) :: es) l H C :=
  Ops.any (fun _ _ _ a _ q => ⟨_, n, cp, kk, j, a _ _ hx, a _ _ hy, h.1, h.2, by rw [add_mk]; exact q⟩) k

theorem Ops.ixA {x y : Operand} {n s : Nat} {b o : Nat} {kk : IntKind} {j : Int} (hx : get l x = some (.pointer (some ⟨b, o, none⟩))) (hy : get l y = some (.int kk j)) (h : 0 ≤ j ∧ j < (n : Int))
    (k : Ops P F es ((d, .pointer (some ⟨b, o + j.toNat * s, none⟩)) :: l) H C) : Ops P F (EG.mk i (some d) none c (.ixA x y n s) :: es) l H C :=
  Ops.any (fun _ _ _ a _ q => ⟨_, kk, j, a _ _ hx, a _ _ hy, h.1, h.2, by rw [add_mk]; exact q⟩) k

theorem Ops.build {z : List Value} {parts : List (Nat × Nat × Operand)} {ps : List (Nat × Nat × Value)} {cs : List Value} (hp : ∀ ρ, Agrees l ρ → parts.map (fun p => (p.1, p.2.1, ρ p.2.2)) = ps) (hb : buildL z ps = some cs)
    (k : Ops P F es ((d, .agg cs.toArray) :: l) H C) : Ops P F (EG.mk i (some d) none c (.build z parts) :: es) l H C :=
  Ops.any (fun ρ _ _ a _ q => ⟨cs, by rw [hp ρ a]; exact hb, q⟩) k

theorem Ops.bsl {T : TypeId} {z : List Value} {n : Nat} {parts : List (Nat × Nat × Operand)} {ps : List (Nat × Nat × Value)} {cs : List Value} (hp : ∀ ρ, Agrees l ρ → parts.map (fun p => (p.1, p.2.1, ρ p.2.2)) = ps) (hb : buildL z ps = some cs)
    (k : ∀ b, Ops P F es ((d, .slice (some ⟨b, 0, none⟩) n n) :: l) (.pt b (.cells cs.toArray T (0, 0)) :: H) C) : Ops P F (EG.mk i (some d) none false (.bsl T z n parts) :: es) l H C :=
  Ops.busy (R := fun v' H' => ∃ b, v' = .slice (some ⟨b, 0, none⟩) n n ∧ H' = .pt b (.cells cs.toArray T (0, 0)) :: H)
    (fun w h ρ a q f => ⟨cs, by rw [hp ρ a]; exact hb, _, _, ⟨_, rfl, rfl⟩, seps_new _ q f.fresh.1, f.new _, Keeps.newBlk w _⟩)
    fun v' H' ⟨b, e1, e2⟩ => by subst e1; subst e2; exact k b

/-- dropping what is owned, and putting it in another order -/
theorem Ops.conseq {es : List EG} : ∀ {l : Fr} {H H' : List HA} {C : Fr → List HA → Prop}, (∀ h, seps H h → seps H' h) → (∀ l H H', (∀ h, seps H h → seps H' h) → C l H' → C l H) → Ops P F es l H' C → Ops P F es l H C := by
  induction es with
  | nil => intro l H H' C e hC o; exact hC _ _ _ e o
  | cons x es ih =>
    intro l H H' C e hC o
    rw [Ops.cons_eq] at o ⊢
    have body : Body P F x l H' (fun v H2 => Ops P F es (x.put l v) H2 C) → Body P F x l H (fun v H2 => Ops P F es (x.put l v) H2 C) := by
      intro o
      unfold Body at o ⊢
      split at o
      · rename_i hc; rw [if_pos hc]
        obtain ⟨v, cv, n⟩ := o
        exact ⟨v, cv, ih e hC n⟩
      · rename_i hc; rw [if_neg hc]
        obtain ⟨R, b, n⟩ := o
        exact ⟨R, fun w h ρ a q f => b w h ρ a (e h q) f, n⟩
    unfold One at o ⊢
    split at o
    · exact body o
    · obtain ⟨v, hl, h1, h2⟩ := o
      exact ⟨v, hl, fun y => body (h1 y), fun y => ih e hC (h2 y)⟩
end

theorem m0 {x : HA} {H : List HA} : x ∈ x :: H := .head _
theorem m1 {x a : HA} {H : List HA} : x ∈ a :: x :: H := .tail _ (.head _)
theorem m2 {x a b : HA} {H : List HA} : x ∈ a :: b :: x :: H := .tail _ m1
theorem m3 {x a b c : HA} {H : List HA} : x ∈ a :: b :: c :: x :: H := .tail _ m2
theorem m4 {x a b c d : HA} {H : List HA} : x ∈ a :: b :: c :: d :: x :: H := .tail _ m3
theorem m5 {x a b c d e : HA} {H : List HA} : x ∈ a :: b :: c :: d :: e :: x :: H := .tail _ m4
theorem m6 {x a b c d e f : HA} {H : List HA} : x ∈ a :: b :: c :: d :: e :: f :: x :: H := .tail _ m5
theorem u0 {x y : HA} {H : List HA} : Upd (x :: H) x y (y :: H) := .here
theorem u1 {x y a : HA} {H : List HA} : Upd (a :: x :: H) x y (a :: y :: H) := .there u0
theorem u2 {x y a b : HA} {H : List HA} : Upd (a :: b :: x :: H) x y (a :: b :: y :: H) := .there u1
theorem u3 {x y a b c : HA} {H : List HA} : Upd (a :: b :: c :: x :: H) x y (a :: b :: c :: y :: H) := .there u2
theorem u4 {x y a b c d : HA} {H : List HA} : Upd (a :: b :: c :: d :: x :: H) x y (a :: b :: c :: d :: y :: H) := .there u3
theorem u5 {x y a b c d e : HA} {H : List HA} : Upd (a :: b :: c :: d :: e :: x :: H) x y (a :: b :: c :: d :: e :: y :: H) := .there u4
theorem s0 {x : HA} {H : List HA} : Sel (x :: H) x H := .here
theorem s1 {x a : HA} {H : List HA} : Sel (a :: x :: H) x (a :: H) := .there s0
theorem s2 {x a b : HA} {H : List HA} : Sel (a :: b :: x :: H) x (a :: b :: H) := .there s1
theorem s3 {x a b c : HA} {H : List HA} : Sel (a :: b :: c :: x :: H) x (a :: b :: c :: H) := .there s2
theorem s4 {x a b c d : HA} {H : List HA} : Sel (a :: b :: c :: d :: x :: H) x (a :: b :: c :: d :: H) := .there s3
theorem s5 {x a b c d e : HA} {H : List HA} : Sel (a :: b :: c :: d :: e :: x :: H) x (a :: b :: c :: d :: e :: H) := .there s4
theorem s6 {x a b c d e f : HA} {H : List HA} : Sel (a :: b :: c :: d :: e :: f :: x :: H) x (a :: b :: c :: d :: e :: f :: H) := .there s5
theorem s7 {x a b c d e f g : HA} {H : List HA} : Sel (a :: b :: c :: d :: e :: f :: g :: x :: H) x (a :: b :: c :: d :: e :: f :: g :: H) := .there s6

/-- what is owned, the ones named taken out and the rest let go -/
theorem take_sub {H ps R : List HA} (t : Take H ps R) : ∀ h, seps H h → seps ps h := fun h q => by
  obtain ⟨a, b, s, x, _⟩ := seps_append.1 (t.sound q); exact seps_up x s.symm

/-- what is owned closed into a named group -/
theorem fold_grp {H G R : List HA} {I : List HA → Prop} (t : Take H G R) (hI : I G) : ∀ h, seps H h → seps (grp I :: R) h := fun h q => by
  obtain ⟨a, b, s, x, y⟩ := seps_append.1 (t.sound q); exact ⟨a, b, s, ⟨G, hI, x⟩, y⟩

end Eng
end Go.Proofs.Ytbhlolmglieehaa
