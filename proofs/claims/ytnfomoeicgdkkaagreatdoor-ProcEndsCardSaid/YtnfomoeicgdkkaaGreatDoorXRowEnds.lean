/- ProcEnds: whatever the arguments, the answer is true, and they read as they did. -/
import Derived.Test.YtnfomoeicgdkkaaGreatDoorZ13
import Derived.Test.YtnfomoeicgdkkaaGreatDoorTie
import Derived.Test.YtnfomoeicgdkkaaGreatDoorCards
import Derived.LaidMore
import Derived.Stop.Joined
set_option linter.unusedSimpArgs false
set_option linter.unusedVariables false
namespace Go.Proofs.YtnfomoeicgdkkaaGreatDoor.rowProcEnds
open Go.ChangeShapes Go.WideShapes Go.ChangeAt Go.RowKit
set_option linter.unusedVariables false


def L : List (String × DataW Unit) := Rows.procEndsRow.laid

set_option maxRecDepth 100000 in
theorem contract (H : Type) (enc : TypeId × Value → H) (W : World) (base : Nat) (args : Array Value) (ds gs : List (DataW H)) (before : List MemPlace)
    (hval : ∀ (j : Nat) t v, Tryz.f7.params[j]? = some t → args[j]? = some v → Value.okWide Tryz.prog W .any base t v)
    (hW : DataW.Whole enc Tryz.prog Tryz.f7.params.toList Rows.procEndsSpec.vars false W args.toList ds gs before) (hS : W.ShapedOpen Tryz.prog) :
    Calls Tryz.prog 7 args W fun e W' => ∃ v, e = .returned v ∧ Rows.procEndsSpec.post enc Tryz.prog Tryz.f7 false true false false W args v W' := by
  have hW' := hW
  have g := glob_of_shape hS
  obtain ⟨p, q, hA, hV, rfl, hfz, hnd⟩ := hW
  have hlt : ∀ x ∈ p ++ q, x.block < W.heap.size := fun x hx => hW'.lt x hx
  have hA0 : DataW.TrodAll enc Tryz.prog W 0 (fun _ => true) true [42] args.toList ds p := hA
  rw [Tryz.params7] at hval
  obtain ⟨rfl, rfl⟩ := trodVars_none hV
  have hA1 := hA0
  obtain ⟨v0, vs0, d0, ds0, p0, q0, hargs0, rfl, hq0, h0, r0⟩ := trodAll_cons hA1
  obtain ⟨rfl, rfl, rfl⟩ := trodAll_nil r0
  obtain rfl : args = #[v0] := by cases args; simp_all
  obtain ⟨a0, w0⟩ : ∃ ms, Eng.RdL (fun n => W.heap[n]?) 1 Eng.RdI1 v0 ms := by
    obtain ⟨fuel, hf⟩ := h0
    rw [val_slice Tryz.underlying42 (hval 0 42 v0 rfl rfl)] at hf
    obtain ⟨v, ops, he, hr⟩ := Eng.arg_list (s := 1) Eng.RdI1 Tryz.underlying42 (by kernel_rfl) (by decide) (fun n cs y h => Eng.arg_int Tryz.underlying3 n cs y h) hf; cases he; exact ⟨ops, hr⟩
  refine (Eng.law08_ProcEnds v0 _ _ g (w0.e fun _ _ h => h)).calls.mono fun e W' ⟨v, he, hv, hg⟩ => ?_
  subst he
  subst hv
  exact ⟨_, rfl, post_below (pa := p) (pv := []) hW' (fun _ _ _ => (trodAll_cons_mk (shut_bool Tryz.underlying4 _) trodAll_mk0))
    (fun sp hsp => trodAll_stays (ts := [42]) fact_laid hg (fun t ht => by simp only [List.mem_cons, List.not_mem_nil, or_false] at ht; rcases ht with rfl <;> exact ⟨by kernel_rfl, of_decide_eq_true (by kernel_rfl)⟩) hA0 (fun x hx => hlt x (List.mem_append_left _ hx)) (fun x hx => hsp x (List.mem_append_left _ hx)))
    (fun _ _ => rfl) rfl hg (ok_one (by kernel_rfl) rfl (okWide_bool_mk Tryz.underlying4 _))⟩

set_option maxRecDepth 100000 in
theorem lifted (os : Os) (started : os.Started) (H : Type) (enc : TypeId × Value → H) :
    ReturnsInHanded {} Tryz.checked os 7 .any (fun w args => (Rows.procEndsSpec.pre enc Tryz.prog Tryz.f7 [] false w args ∧ laidMetH Tryz.prog L w) ∧ sizedMet enc Tryz.prog Tryz.f7 (OpenSpec.ofChange Rows.procEndsSpec) false w args)
      (Rows.procEndsSpec.post enc Tryz.prog Tryz.f7 false true false false) := by
  refine returns_shaped (C := Tryz.checked) (X := fun w _ => laidMetH Tryz.prog L w) (fun _ _ _ hh h => h.of_heap hh) own started (by kernel_rfl) Tryz.func7
    (ChangeSpec.witness_shaped (enc := enc) (C := Tryz.checked) (os := os) (X := fun w _ => laidMetH Tryz.prog L w) false (World.laidAll Tryz.prog os L) #[.slice none 0 0] 8 (World.laidAll_os _ _ _)
      (World.shaped_of_ZipB (by kernel_rfl) (by kernel_rfl)) (by kernel_rfl) (by kernel_rfl) (by kernel_rfl)
      (by rw [MakeChecks.laidMetH_plain _ _ _ (by kernel_rfl)]; exact laidMet_laidAll _ (by kernel_rfl) (by kernel_rfl))) ?_
  intro W base args ds gs before hval hW _ hS
  exact contract H enc W base args ds gs before hval hW hS

theorem c1 : (Rows.procEndsRow.inPlace == Tryz.prog.inPlace 7) = true := by kernel_rfl
theorem c2 : (Rows.procEndsRow.unfollowed == Tryz.prog.unfollowed 7) = true := by kernel_rfl
theorem c3 : (Rows.procEndsRow.recurses == Tryz.prog.recurses 7) = true := by kernel_rfl
theorem c4 : (Rows.procEndsRow.named == Tryz.prog.varsNamed 7) = true := by kernel_rfl
set_option maxRecDepth 100000 in
theorem closed : joinedFacts Tryz.prog 7 Tryz.f7 Rows.procEndsSpec Rows.procEndsRow = true :=
  closed_of (by kernel_rfl) fact_laid fact_rowed (by kernel_rfl) (by kernel_rfl) (by kernel_rfl) (by kernel_rfl) (by kernel_rfl) (by kernel_rfl) c1 c2 c3 c4 (by kernel_rfl) (by kernel_rfl) (by kernel_rfl) (by kernel_rfl) (by kernel_rfl) (by kernel_rfl) (by kernel_rfl) (by kernel_rfl) (by kernel_rfl)
    fact_keys (by kernel_rfl) fact_heard fact_may fact_lift fact_make (by kernel_rfl) (by kernel_rfl) (by kernel_rfl) (by kernel_rfl)
theorem named : Tryz.prog.funcNamed Rows.procEndsRow.func = some 7 := by kernel_rfl
theorem row : Rows.ProcEndsSaid :=
  OpenClaim.holds_of_wide 7 Tryz.f7 rfl rfl rfl rfl rfl rfl rfl ⟨rfl, rfl, rfl, rfl, rfl⟩ rfl rfl rfl rfl rfl named Tryz.func7 closed
    (of_decide_eq_true (by kernel_rfl)) (by unfold Func.isWrapper; rw [if_neg (of_decide_eq_false (by kernel_rfl))]; exact ⟨rfl, rfl⟩)
    (fun os started H enc _ => lifted os started H enc)

theorem goes : false = Rows.procEndsRow.goesBy Tryz.pinned.checked.prog := by kernel_rfl
theorem wf : Rows.procEndsRow.wfByText (OpenSpec.ofChange Rows.procEndsSpec) = true := by kernel_rfl
theorem proved : Rows.ProcEndsCardSaid :=
  Claim7.holds_tied_plain_at .later [] [.data, .pinned] true (true, "138d6610aabe04bd058705bb132886a463760f71cfaa03dace35cc9b22d0b03a") true
    row (fun _ h => by cases h) wf (fun _ h => by cases h) procEnds_row_tie rfl ⟨rfl, rfl⟩ fact_main rfl
    (fun f fn hf hfn => by
      obtain rfl : f = 7 := Option.some.inj (named.symm.trans hf) |>.symm
      obtain rfl : fn = Tryz.f7 := (Option.some.inj (Tryz.func7.symm.trans hfn)).symm
      exact ⟨fact_looks, fun j t ht => by
        rw [Tryz.params7] at ht
        have hm : t ∈ [42] := by simpa using Array.mem_of_getElem? ht
        have hall : ([42].all fun u => !Tryz.prog.wantsStandIn u) = true := by kernel_rfl
        exact (show Tryz.prog.wantsStandIn t = false by simpa using List.all_eq_true.1 hall t hm)⟩)
    goes
end Go.Proofs.YtnfomoeicgdkkaaGreatDoor.rowProcEnds
