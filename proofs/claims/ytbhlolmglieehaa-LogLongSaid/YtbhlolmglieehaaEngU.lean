/- Lending for the rest of a run; copies; arrays that are held against one another. -/
import Derived.Test.YtbhlolmglieehaaEngT
set_option linter.unusedSimpArgs false
set_option linter.unusedVariables false
namespace Go.Proofs.Ytbhlolmglieehaa
namespace Eng

section
variable {P : Program} {f : FuncId} {n : Nat} {F : Hp} {K : List EI} {l : Fr} {H : List HA} {R : Value → List HA → Prop}

/-- what is owned is lent for the rest of a run -/
theorem Run.lend (S : List HA) {M : List HA} (t : Take H S M) (r : ∀ F', Ext F F' → Known S F' → Run P f n F' K l M (fun v H' => R v (H' ++ S))) : Run P f n F K l H R := by
  intro K' w0 w h a i q fw fa kp
  obtain ⟨x, y, sp, qx, qy⟩ := seps_append.1 (t.sound q)
  have hb : ∀ n, x n = none ∨ F n = none := fun n => (fw.dis n).imp sp.none_left id
  have ext : Ext F (join F x) := fun n o e => by simp [join, e]
  have known : Known S (join F x) := fun n o m => by
    have := seps_mem_pt m qx
    rcases hb n with e | e
    · rw [e] at this; cases this
    · simp [join, e, this]
  refine (r (join F x) ext known K' w0 w y a i qy (fw.split sp.symm) fa kp).mono ?_
  rintro e w' ⟨v, H', h', he, r, q', k', kp'⟩
  have ⟨k2, s2⟩ := k'.unsplit hb
  exact ⟨v, _, _, he, r, seps_append.2 ⟨h', x, s2, q', qx⟩, k2, kp'⟩
/-- where the ways behind a condition meet again -/
theorem Run.meet {ι : Type} {X : EC} (Inv : ι → Prop) (lf : ι → Fr) (Hf : ι → List HA) (tail : ∀ j, Inv j → Run P f n F K (lf j) (Hf j) R)
    (br : (∀ j, Inv j → Run P f n F K (lf j) (Hf j) R) → Run P f n F (.code X :: K) l H R) : Run P f n F (.code X :: K) l H R := br tail

/-- what is owned is lent, and then dropped -/
theorem Run.lendD (S : List HA) {M : List HA} (t : Take H S M) (r : ∀ F', Ext F F' → Known S F' → Run P f n F' K l M R) : Run P f n F K l H R := by
  intro K' w0 w h a i q fw fa kp
  obtain ⟨x, y, sp, qx, qy⟩ := seps_append.1 (t.sound q)
  have hb : ∀ n, x n = none ∨ F n = none := fun n => (fw.dis n).imp sp.none_left id
  have ext : Ext F (join F x) := fun n o e => by simp [join, e]
  have known : Known S (join F x) := fun n o m => by
    have := seps_mem_pt m qx
    rcases hb n with e | e
    · rw [e] at this; cases this
    · simp [join, e, this]
  refine (r (join F x) ext known K' w0 w y a i qy (fw.split sp.symm) fa kp).mono ?_
  rintro e w' ⟨v, H', h', he, r, q', k', kp'⟩
  have ⟨k2, s2⟩ := k'.unsplit hb
  exact ⟨v, _, _, he, r, seps_up q' s2.symm, k2, kp'⟩
end

section
variable {P : Program} {F : Hp} {l : Fr} {H : List HA} {C : Fr → List HA → Prop} {es : List EG} {i d : Nat} {c : Bool}

theorem Ops.eqa {x y : Operand} {k : IntKind} {n : Nat} {T : TypeId} (xs ys : List Int) (hx : get l x = some (.agg (xs.map (Value.int k)).toArray)) (hy : get l y = some (.agg (ys.map (Value.int k)).toArray)) (h1 : xs.length = n) (h2 : ys.length = n)
    (kk : Ops P F es ((d, .bool (xs == ys)) :: l) H C) : Ops P F (EG.mk i (some d) none c (.eqa false T k n x y) :: es) l H C :=
  Ops.any (fun _ _ _ a _ q => ⟨xs, ys, a _ _ hx, a _ _ hy, h1, h2, q⟩) kk

theorem Upd.self' {H H' : List HA} {x y : HA} (u : Upd H x y H') : x = y → H' = H := by
  induction u with
  | here => intro hy; subst hy; rfl
  | there _ ih => intro hy; rw [ih hy]
theorem Upd.self {H H' : List HA} {x : HA} (u : Upd H x x H') : H' = H := u.self' rfl

/-- copy into an array that is owned -/
theorem Ops.cpy {x y : Operand} {b o dl dc m s : Nat} {L vs : List Value} {T : TypeId} {v : Value} {H' : List HA} (hx : get l x = some (.slice (some ⟨b, o, none⟩) dl dc)) (hy : get l y = some v) (hm : lenV v = some m)
    (sh : ∀ w h, seps H h → Fits F h w → shows w s (Nat.min m dl) v vs) (h1 : oneCells vs)
    (u : Upd H (.pt b (.cells L.toArray T (0, 0))) (.pt b (.cells (L.take o ++ vs ++ L.drop (o + vs.length)).toArray T (0, 0))) H') (hl : o + vs.length ≤ L.length)
    (k : Ops P F es ((d, .int .i64 (Nat.min m dl : Nat)) :: l) H' C) : Ops P F (EG.mk i (some d) none false (.cpy s x y) :: es) l H C :=
  Ops.busy (R := fun v' M => v' = .int .i64 (Nat.min m dl : Nat) ∧ M = H') (fun w h ρ a q f => by
    refine ⟨some ⟨b, o, none⟩, dl, dc, m, vs, a _ _ hx, by rw [a _ _ hy]; exact hm, by rw [a _ _ hy]; exact sh w h q f, ?_⟩
    refine ⟨rfl, ?_⟩
    by_cases hv : vs = []
    · rw [if_pos hv]
      subst hv
      have hL : L.take o ++ [] ++ L.drop (o + ([] : List Value).length) = L := by simp
      rw [hL] at u
      exact ⟨H', h, ⟨rfl, rfl⟩, by rw [u.self]; exact q, f, Keeps.refl w⟩
    · rw [if_neg hv]
      exact ⟨L, T, (0, 0), f.own _ _ (seps_mem_pt u.mem q), h1, hl, fun j _ _ => nofz j, ⟨H', _, ⟨rfl, rfl⟩, seps_upd u q, f.set (seps_mem_pt u.mem q), Keeps.setBlk w b _⟩⟩) fun v' M ⟨e1, e2⟩ => by subst e1; subst e2; exact k
end
end Eng
end Go.Proofs.Ytbhlolmglieehaa
