/- Whatever an operation is resolved to, the model does: jointly. -/
import Derived.Test.YtbhlolmglieehaaEngJ
set_option linter.unusedSimpArgs false
set_option linter.unusedVariables false
namespace Go.Proofs.Ytbhlolmglieehaa
namespace Eng

section
variable {P : Program} {w : World} {ρ : Operand → Value} {T : TypeId} {Q : Next → World → Prop}

theorem compile_does {o : Op} {e : EOp} (hρ : ∀ g, ρ (.func g) = .func (.func g) #[] #[]) (hc : compileOp P o T = some e) (h : e.wp P ρ w Q) : Does P ρ o T w Q := by
  cases o with
  | move x => cases hc; exact does_v (s := pure (ρ x)) rfl (fun _ _ _ _ => rfl) h
  | assign x => cases hc; exact does_v (s := pure (ρ x)) rfl (fun _ _ _ _ => rfl) h
  | pick c a b =>
    cases hc
    obtain ⟨t, ht, q⟩ := h
    refine ⟨.value (if t then ρ a else ρ b), w, fun d pos af g => ?_, q⟩
    show Sem.run P (do pure (Next.value (if ← asBool (ρ c) then ρ a else ρ b))) w = _
    rw [ht]; rfl
  | nilCheck x =>
    cases hc
    obtain ⟨a, hx, q⟩ := h
    refine ⟨.value (.pointer (some a)), w, fun d pos af g => ?_, q⟩
    simp only [execOp, hx]; rfl
  | alloc t =>
    simp only [compileOp] at hc
    split at hc
    · rename_i i hi
      cases hz : i.zero with
      | none => rw [hz] at hc; cases hc
      | some z => rw [hz] at hc; cases hc; exact does_alloc hi hz h
    · cases hc
  | box t x => cases hc; exact does_box h
  | load t x =>
    simp only [compileOp] at hc
    split at hc
    · rename_i ha
      cases hi : P.info? t with
      | none => rw [hi] at hc; cases hc
      | some i => rw [hi] at hc; cases hc; exact does_ldn ha hi h
    · rename_i ha; cases hc; exact does_ld1 ha h
    · cases hc
  | store t x y =>
    simp only [compileOp] at hc
    cases hi : P.info? t with
    | none => rw [hi] at hc; cases hc
    | some i => rw [hi] at hc; cases hc; exact does_st hi h
  | fieldAddr s x f =>
    simp only [compileOp] at hc
    split at hc
    · rename_i fs hs
      split at hc
      · rename_i fd hf
        split at hc
        · rename_i i hi
          split at hc
          · cases hc
          · rename_i h0; cases hc; exact does_off hs hf hi h0 h
        · cases hc
      · cases hc
    · cases hc
  | binOp op t x y t' =>
    simp only [compileOp] at hc
    split at hc
    · cases hc; exact does_bin h
    · cases hc; exact does_bin h
    · rename_i n e ht
      split at hc
      · rename_i k he
        split at hc
        · rename_i hcond
          cases hc
          have hsz : ∃ j, P.info? e = some j ∧ j.size = 1 := by
            have := hcond.2
            unfold Program.cellsOf at this
            cases hj : P.info? e with
            | none => rw [hj] at this; simp at this
            | some j => rw [hj] at this; exact ⟨j, rfl, by simpa using this⟩
          obtain ⟨j, hj, h1⟩ := hsz
          exact does_eqa (neg := false) ht he hj h1 hcond.1 h
        · cases hc
      · rename_i k he
        split at hc
        · rename_i hcond
          cases hc
          have hsz : ∃ j, P.info? e = some j ∧ j.size = 1 := by
            have := hcond.2
            unfold Program.cellsOf at this
            cases hj : P.info? e with
            | none => rw [hj] at this; simp at this
            | some j => rw [hj] at this; exact ⟨j, rfl, by simpa using this⟩
          obtain ⟨j, hj, h1⟩ := hsz
          exact does_eqa (neg := true) ht he hj h1 hcond.1 h
        · cases hc
      · cases hc
    · rename_i d _ _ _ hd
      split at hc
      · split at hc
        · cases hc; exact does_eqv (neg := false) hd h
        · cases hc; exact does_eqv (neg := true) hd h
        · cases hc
      · cases hc
    · cases hc
  | unOp op t x => cases hc; exact does_un h
  | convert s t x =>
    simp only [compileOp] at hc
    split at hc
    · rename_i hs ht; cases hc; exact does_cvI hs ht h
    · rename_i hs ht; cases hc; exact does_cvSS hs ht h
    · rename_i e hs ht
      split at hc
      · rename_i he; cases hc; exact does_cvSB hs ht he h
      · cases hc
    · rename_i f e hs ht
      split at hc
      · rename_i he
        split at hc
        · rename_i hst; cases hc; exact does_cvLit hs ht he hst h
        · cases hc
      · cases hc
    · rename_i e hs ht
      split at hc
      · rename_i he; cases hc; exact does_cvBS hs ht he h
      · cases hc
    · cases hc
  | field t x f =>
    simp only [compileOp] at hc
    split at hc
    · rename_i fs ht
      split at hc
      · rename_i fd hf
        split at hc
        · rename_i i ha hi; cases hc; exact does_fldn ht hf ha hi h
        · rename_i ha; cases hc; exact does_fld1 ht hf ha h
        · cases hc
      · cases hc
    · cases hc
  | extract x i => cases hc; exact does_ext h
  | indexAddr t x i =>
    simp only [compileOp] at hc
    split at hc
    · rename_i e ht
      cases hj : P.info? e with
      | none => rw [hj] at hc; cases hc
      | some j => rw [hj] at hc; cases hc; exact does_ixS ht hj h
    · rename_i n e ht
      cases hj : P.info? e with
      | none => rw [hj] at hc; cases hc
      | some j => rw [hj] at hc; cases hc; exact does_ixA ht hj h
    · cases hc
  | index t x i =>
    simp only [compileOp] at hc
    split at hc
    · rename_i ht; cases hc; exact does_idS ht h
    · rename_i n e ht
      split at hc
      · rename_i j ha hj; cases hc; exact does_idAn ht ha hj h
      · rename_i j ha hj; cases hc; exact does_idA1 ht ha hj h
      · cases hc
    · cases hc
  | slice t x lo hi mx =>
    simp only [compileOp] at hc
    split at hc
    · rename_i e ht
      cases hj : P.info? e with
      | none => rw [hj] at hc; cases hc
      | some j => rw [hj] at hc; cases hc; exact does_slS ht hj h
    · rename_i n e ht
      cases hj : P.info? e with
      | none => rw [hj] at hc; cases hc
      | some j => rw [hj] at hc; cases hc; exact does_slA ht hj h
    · rename_i ht
      split at hc
      · cases hc
      · rename_i hm
        have : mx = none := by cases mx <;> simp_all
        subst this
        cases hc; exact does_slT ht h
    · cases hc
  | build t parts =>
    simp only [compileOp] at hc
    split at hc
    · rename_i i fs hi ht
      split at hc
      · rename_i z hz
        cases hp : partsAt (fun k => (fs[k]?).bind fun f => (P.info? f.type).map fun j => (f.offset, j.size)) parts with
        | none => rw [hp] at hc; cases hc
        | some ps =>
          rw [hp] at hc
          simp only [Option.bind_some] at hc
          split at hc
          · rename_i hall; cases hc; exact does_buildS hi ht hz hall hp h
          · cases hc
      · cases hc
    · rename_i i n e hi ht
      split at hc
      · rename_i z j hz hj
        cases hp : partsAt (fun k => some (k * j.size, j.size)) parts with
        | none => rw [hp] at hc; cases hc
        | some ps => rw [hp] at hc; cases hc; exact does_buildA hi ht hz hj hp h
      · cases hc
    · cases hc
  | buildSlice t n parts =>
    simp only [compileOp] at hc
    split at hc
    · rename_i e ht
      split at hc
      · rename_i j hj
        split at hc
        · rename_i z hz
          split at hc
          · cases hc
          · rename_i hcond
            have h1 : ¬ n * j.size > 2 ^ 24 := fun x => hcond (.inl x)
            have h2 : (vcells z).length = j.size := Classical.byContradiction fun x => hcond (.inr (.inl x))
            have h3 : j.size ≠ 0 := fun x => hcond (.inr (.inr x))
            cases hp : partsAt (fun k => some (k * j.size, j.size)) parts with
            | none => rw [hp] at hc; cases hc
            | some ps => rw [hp] at hc; cases hc; exact does_bsl ht hj hz h1 h2 h3 hp h
        · cases hc
      · cases hc
    · cases hc
  | makeSlice t l c =>
    simp only [compileOp] at hc
    split at hc
    · rename_i e ht
      split at hc
      · rename_i j hj
        split at hc
        · rename_i z hz
          split at hc
          · cases hc
          · rename_i hcond
            have h2 : (vcells z).length = j.size := Classical.byContradiction fun x => hcond (.inl x)
            have h3 : j.size ≠ 0 := fun x => hcond (.inr (.inl x))
            have h4 : j.bytes ≠ 0 := fun x => hcond (.inr (.inr x))
            cases hc; exact does_mks ht hj hz h2 h3 h4 h
        · cases hc
      · cases hc
    · cases hc
  | makeFunc fn first cap => cases hc; exact does_v (s := Instr.makeFunc fn (first.map ρ) (cap.map ρ)) rfl (fun _ _ _ _ => rfl) h
  | makeInterface t x =>
    simp only [compileOp] at hc
    split at hc
    · cases hc
    · rename_i d hn hd; cases hc; exact does_mki hd (fun ms e => by subst e; exact hn _ rfl) h
    · cases hc
  | call c =>
    simp only [compileOp] at hc
    split at hc
    · rename_i g hcal
      split at hc
      · rename_i fn hf
        split at hc
        · rename_i hcond; cases hc; exact does_call hcal hf hcond.1 hcond.2 (hρ g) h
        · cases hc
      · cases hc
    · rename_i f _ hcal; cases hc; exact does_callv hcal h
    · rename_i hcal
      split at hc
      · rename_i t x ht hx
        split at hc
        · rename_i hd; cases hc; exact does_lenT hcal ht hx hd h
        · rename_i e hd; cases hc; exact does_len hcal ht hx hd h
        · rename_i k e hd; cases hc; exact does_lenm hcal ht hx hd h
        · cases hc
      · cases hc
    · rename_i hcal
      split at hc
      · rename_i t u x y ht hu hx hy
        split at hc
        · rename_i e f hd hdu
          split at hc
          · rename_i j hj
            split at hc
            · rename_i z hz
              split at hc
              · cases hc
              · rename_i hcond
                have h2 : (vcells z).length = j.size := Classical.byContradiction fun x => hcond (.inl x)
                have h3 : j.size ≠ 0 := fun x => hcond (.inr (.inl x))
                have h4 : j.bytes ≠ 0 := fun x => hcond (.inr (.inr x))
                cases hc; exact does_app hcal ht hu hx hy hd (.inr ⟨_, hdu⟩) hj hz h2 h3 h4 h
            · cases hc
          · cases hc
        · rename_i e hd hdu
          split at hc
          · rename_i j hj
            split at hc
            · rename_i z hz
              split at hc
              · cases hc
              · rename_i hcond
                have h2 : (vcells z).length = j.size := Classical.byContradiction fun x => hcond (.inl x)
                have h3 : j.size ≠ 0 := fun x => hcond (.inr (.inl x))
                have h4 : j.bytes ≠ 0 := fun x => hcond (.inr (.inr x))
                cases hc; exact does_app hcal ht hu hx hy hd (.inl hdu) hj hz h2 h3 h4 h
            · cases hc
          · cases hc
        · cases hc
      · cases hc
    · rename_i hcal
      split at hc
      · rename_i t x y ht hx hy
        split at hc
        · rename_i e hd
          cases hj : P.info? e with
          | none => rw [hj] at hc; cases hc
          | some j => rw [hj] at hc; cases hc; exact does_cpy hcal ht hx hy hd hj h
        · cases hc
      · cases hc
    · rename_i hcal
      split at hc
      · rename_i x y ha; cases hc; exact does_mx2 hcal ha h
      · cases hc
    · rename_i hcal
      split at hc
      · rename_i x y ha; cases hc; exact does_mn2 hcal ha h
      · cases hc
    · cases hc; exact does_raw h fun _ _ _ _ => rfl
  | _ => cases hc; exact does_raw h fun _ _ _ _ => rfl

end
end Eng
end Go.Proofs.Ytbhlolmglieehaa
