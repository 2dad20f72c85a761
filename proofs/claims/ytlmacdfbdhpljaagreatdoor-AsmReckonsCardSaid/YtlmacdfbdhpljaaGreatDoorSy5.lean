/- Own text: the law of AsmReckons. -/
import Derived.Test.YtlmacdfbdhpljaaGreatDoorSy4
namespace Go.Proofs.YtlmacdfbdhpljaaGreatDoor
open Go.Ev Go.Ev.Tr Go.Proofs Go.RowKit Go.ChangeAt
set_option maxRecDepth 1000000
theorem reckons_called {W : World} {v : Value} (_ : laidMetH Tryz.prog laidS W) (_ : W.ShapedOpen Tryz.prog) (b : Bool) (h : v = .slice none 0 0 ∨ ∃ B off len cap f g, v = .slice (some ⟨B, off, none⟩) len cap ∧ PiecesAt W B off len f g) :
    Calls Tryz.prog 4 #[v, .bool b] W fun e W' => e = .returned (.bool true) ∧ Below W.heap.size W W' := by
  obtain ⟨ao, len, cap, f, g, rfl, hA, hm⟩ : ∃ ao len cap f g, v = .slice ao len cap ∧ ArgP W ao len f g ∧ len ≤ maxLen := by
    rcases h with rfl | ⟨B, off, len, cap, f, g, rfl, hP⟩
    · exact ⟨none, 0, 0, fun _ => 0, fun _ => 0, rfl, fun h => absurd h (by omega), by unfold maxLen; omega⟩
    · exact ⟨_, len, cap, f, g, rfl, fun _ => ⟨B, off, rfl, hP⟩, hP.lm⟩
  cases b with
  | false => exact reckons_plain hA hm
  | true => exact reckons_named hA hm
end Go.Proofs.YtlmacdfbdhpljaaGreatDoor
