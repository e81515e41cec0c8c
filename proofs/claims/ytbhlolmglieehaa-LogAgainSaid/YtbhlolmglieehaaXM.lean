/- Operations on a log, and lists of rows, as they come in. -/
import Derived.Test.YtbhlolmglieehaaXI
import Derived.Test.YtbhlolmglieehaaXL
set_option linter.unusedSimpArgs false
set_option linter.unusedVariables false
namespace Go.Proofs.Ytbhlolmglieehaa
open Go.ChangeShapes Go.WideShapes Go.ChangeAt Go.RowKit
namespace Eng
variable {H : Type} {enc : TypeId × Value → H} {w : World} {base : Nat} {sp : Nat → Bool} {held : Bool}

theorem four_cells {cs : List Value} {a b c d : Value} (h : cs.length = 4) (h0 : (cs.drop 0).take 1 = [a]) (h1 : (cs.drop 1).take 1 = [b]) (h2 : (cs.drop 2).take 1 = [c]) (h3 : (cs.drop 3).take 1 = [d]) : cs = [a, b, c, d] := by
  match cs, h with
  | [x, y, z, u], _ => simp at h0 h1 h2 h3; simp [h0, h1, h2, h3]

theorem arg_op (n : Nat) (cs : List Value) (y : DataW H × List MemPlace) (h : DataW.trod enc Try.prog w base sp held n 41 cs = some y) : ∃ o, RdOp (fun n => w.heap[n]?) cs o := by
  obtain ⟨y0, y1, y2, y3, m, _, hl, h0, h1, h2, h3⟩ := Go.Joins.trod_struct4 Try.underlying41 h
  have e1 : Try.prog.cellsOf 3 = 1 := by kernel_rfl
  have e2 : Try.prog.cellsOf 30 = 1 := by kernel_rfl
  have e3 : Try.prog.cellsOf 39 = 1 := by kernel_rfl
  have e4 : Try.prog.cellsOf 41 = 4 := by kernel_rfl
  dsimp only at h0 h1 h2 h3
  rw [e1] at h0 h1
  rw [e2] at h2
  rw [e3] at h3
  obtain ⟨a, ha, _⟩ := trod_num Try.underlying3 _ _ _ h0
  obtain ⟨b, hb, _⟩ := trod_num Try.underlying3 _ _ _ h1
  obtain ⟨bs, v, hv, hr⟩ := arg_bytes Try.underlying30 Try.underlying5 (by kernel_rfl) _ _ _ h2
  obtain ⟨k, hk, hw⟩ := trod_num Try.underlying39 _ _ _ h3
  obtain ⟨k, rfl, _⟩ := wf_u64 hw
  exact ⟨⟨a, b, bs, k⟩, v, four_cells (by rw [hl, e4]) ha hb hv hk, hr⟩
end Eng
end Go.Proofs.Ytbhlolmglieehaa
