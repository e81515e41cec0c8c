/- ProcNumbers: whatever the arguments, the answer is true, and they read as they did. -/
import Derived.Test.YtnfomoeicgdkkaaGreatDoorZ12
import Derived.Test.YtnfomoeicgdkkaaGreatDoorTie
import Derived.Test.YtnfomoeicgdkkaaGreatDoorCards
import Derived.LaidMore
import Derived.Stop.Joined
import Derived.Test.YtnfomoeicgdkkaaGreatDoorZ11
set_option linter.unusedSimpArgs false
set_option linter.unusedVariables false
namespace Go.Proofs.YtnfomoeicgdkkaaGreatDoor.rowProcNumbers
open Go.ChangeShapes Go.WideShapes Go.ChangeAt Go.RowKit
set_option linter.unusedVariables false


def L : List (String × DataW Unit) := Rows.procNumbersRow.laid

set_option maxRecDepth 100000 in
theorem contract (H : Type) (enc : TypeId × Value → H) (W : World) (base : Nat) (args : Array Value) (ds gs : List (DataW H)) (before : List MemPlace)
    (hval : ∀ (j : Nat) t v, Tryz.f8.params[j]? = some t → args[j]? = some v → Value.okWide Tryz.prog W .any base t v)
    (hW : DataW.Whole enc Tryz.prog Tryz.f8.params.toList Rows.procNumbersSpec.vars false W args.toList ds gs before) (hS : W.ShapedOpen Tryz.prog) :
    Calls Tryz.prog 8 args W fun e W' => ∃ v, e = .returned v ∧ Rows.procNumbersSpec.post enc Tryz.prog Tryz.f8 false true false false W args v W' := by
  have hW' := hW
  have g := glob_of_shape hS
  obtain ⟨p, q, hA, hV, rfl, hfz, hnd⟩ := hW
  have hlt : ∀ x ∈ p ++ q, x.block < W.heap.size := fun x hx => hW'.lt x hx
  have hA0 : DataW.TrodAll enc Tryz.prog W 0 (fun _ => true) true [79] args.toList ds p := hA
  rw [Tryz.params8] at hval
  obtain ⟨rfl, rfl⟩ := trodVars_none hV
  have hA1 := hA0
  obtain ⟨v0, vs0, d0, ds0, p0, q0, hargs0, rfl, hq0, h0, r0⟩ := trodAll_cons hA1
  obtain ⟨rfl, rfl, rfl⟩ := trodAll_nil r0
  obtain rfl : args = #[v0] := by cases args; simp_all
  obtain ⟨a0, w0⟩ : ∃ acts, Eng.RdL (fun n => W.heap[n]?) 4 (Eng.RdA (fun n => W.heap[n]?)) v0 acts := by
    obtain ⟨fuel, hf⟩ := h0
    rw [val_slice Tryz.underlying79 (hval 0 79 v0 rfl rfl)] at hf
    obtain ⟨v, ops, he, hr⟩ := Eng.arg_list (s := 4) (Eng.RdA (fun n => W.heap[n]?)) Tryz.underlying79 (by kernel_rfl) (by decide) (fun n cs y h => Eng.arg_act8 n cs y h) hf; cases he; exact ⟨ops, hr⟩
  refine (Eng.law08_ProcNumbers v0 _ _ g w0.a8).calls.mono fun e W' ⟨v, he, hv, hg⟩ => ?_
  subst he
  subst hv
  exact ⟨_, rfl, post_below (pa := p) (pv := []) hW' (fun _ _ _ => (trodAll_cons_mk (shut_bool Tryz.underlying4 _) trodAll_mk0))
    (fun sp hsp => trodAll_stays (ts := [79]) fact_laid hg (fun t ht => by simp only [List.mem_cons, List.not_mem_nil, or_false] at ht; rcases ht with rfl <;> exact ⟨by kernel_rfl, of_decide_eq_true (by kernel_rfl)⟩) hA0 (fun x hx => hlt x (List.mem_append_left _ hx)) (fun x hx => hsp x (List.mem_append_left _ hx)))
    (fun _ _ => rfl) rfl hg (ok_one (by kernel_rfl) rfl (okWide_bool_mk Tryz.underlying4 _))⟩

set_option maxRecDepth 100000 in
theorem lifted (os : Os) (started : os.Started) (H : Type) (enc : TypeId × Value → H) :
    ReturnsInHanded {} Tryz.checked os 8 .any (fun w args => (Rows.procNumbersSpec.pre enc Tryz.prog Tryz.f8 [] false w args ∧ laidMetH Tryz.prog L w) ∧ sizedMet enc Tryz.prog Tryz.f8 (OpenSpec.ofChange Rows.procNumbersSpec) false w args)
      (Rows.procNumbersSpec.post enc Tryz.prog Tryz.f8 false true false false) := by
  refine returns_shaped (C := Tryz.checked) (X := fun w _ => laidMetH Tryz.prog L w) (fun _ _ _ hh h => h.of_heap hh) own started (by kernel_rfl) Tryz.func8
    (ChangeSpec.witness_shaped (enc := enc) (C := Tryz.checked) (os := os) (X := fun w _ => laidMetH Tryz.prog L w) false (World.laidAll Tryz.prog os L) #[.slice none 0 0] 8 (World.laidAll_os _ _ _)
      (World.shaped_of_ZipB (by kernel_rfl) (by kernel_rfl)) (by kernel_rfl) (by kernel_rfl) (by kernel_rfl)
      (by rw [MakeChecks.laidMetH_plain _ _ _ (by kernel_rfl)]; exact laidMet_laidAll _ (by kernel_rfl) (by kernel_rfl))) ?_
  intro W base args ds gs before hval hW _ hS
  exact contract H enc W base args ds gs before hval hW hS

theorem c1 : (Rows.procNumbersRow.inPlace == Tryz.prog.inPlace 8) = true := by kernel_rfl
theorem c2 : (Rows.procNumbersRow.unfollowed == Tryz.prog.unfollowed 8) = true := by kernel_rfl
theorem c3 : (Rows.procNumbersRow.recurses == Tryz.prog.recurses 8) = true := by kernel_rfl
theorem c4 : (Rows.procNumbersRow.named == Tryz.prog.varsNamed 8) = true := by kernel_rfl
set_option maxRecDepth 100000 in
theorem closed : joinedFacts Tryz.prog 8 Tryz.f8 Rows.procNumbersSpec Rows.procNumbersRow = true :=
  closed_of (by kernel_rfl) fact_laid fact_rowed (by kernel_rfl) (by kernel_rfl) (by kernel_rfl) (by kernel_rfl) (by kernel_rfl) (by kernel_rfl) c1 c2 c3 c4 (by kernel_rfl) (by kernel_rfl) (by kernel_rfl) (by kernel_rfl) (by kernel_rfl) (by kernel_rfl) (by kernel_rfl) (by kernel_rfl) (by kernel_rfl)
    fact_keys (by kernel_rfl) fact_heard fact_may fact_lift fact_make (by kernel_rfl) (by kernel_rfl) (by kernel_rfl) (by kernel_rfl)
theorem named : Tryz.prog.funcNamed Rows.procNumbersRow.func = some 8 := by kernel_rfl
theorem row : Rows.ProcNumbersSaid :=
  OpenClaim.holds_of_wide 8 Tryz.f8 rfl rfl rfl rfl rfl rfl rfl ⟨rfl, rfl, rfl, rfl, rfl⟩ rfl rfl rfl rfl rfl named Tryz.func8 closed
    (of_decide_eq_true (by kernel_rfl)) (by unfold Func.isWrapper; rw [if_neg (of_decide_eq_false (by kernel_rfl))]; exact ⟨rfl, rfl⟩)
    (fun os started H enc _ => lifted os started H enc)

theorem goes : false = Rows.procNumbersRow.goesBy Tryz.pinned.checked.prog := by kernel_rfl
theorem wf : Rows.procNumbersRow.wfByText (OpenSpec.ofChange Rows.procNumbersSpec) = true := by kernel_rfl
theorem proved : Rows.ProcNumbersCardSaid :=
  Claim7.holds_tied_plain_at .later [] [.data, .pinned] true (true, "138d6610aabe04bd058705bb132886a463760f71cfaa03dace35cc9b22d0b03a") true
    row (fun _ h => by cases h) wf (fun _ h => by cases h) procNumbers_row_tie rfl ⟨rfl, rfl⟩ fact_main rfl
    (fun f fn hf hfn => by
      obtain rfl : f = 8 := Option.some.inj (named.symm.trans hf) |>.symm
      obtain rfl : fn = Tryz.f8 := (Option.some.inj (Tryz.func8.symm.trans hfn)).symm
      exact ⟨fact_looks, fun j t ht => by
        rw [Tryz.params8] at ht
        have hm : t ∈ [79] := by simpa using Array.mem_of_getElem? ht
        have hall : ([79].all fun u => !Tryz.prog.wantsStandIn u) = true := by kernel_rfl
        exact (show Tryz.prog.wantsStandIn t = false by simpa using List.all_eq_true.1 hall t hm)⟩)
    goes
end Go.Proofs.YtnfomoeicgdkkaaGreatDoor.rowProcNumbers
