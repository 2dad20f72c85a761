/- Own text: AsmUnlike: all rounds. -/
import Derived.Test.YtoeipbkoeclbeaaStep0
import Derived.Test.YtoeipbkoeclbeaaStep1
import Derived.Test.YtoeipbkoeclbeaaStep2
import Derived.Test.YtoeipbkoeclbeaaStep3
namespace Go.Proofs.Ytoeipbkoeclbeaa
open Go.Ev Go.Ev.Tr Go.Proofs
set_option maxRecDepth 1000000
theorem stepAll {k : Nat} (h : k < 512) : stepOK k = true := by
  have part : ∀ j, j ≤ k → k < j + 16 → allN stepOK 16 j = true → stepOK k = true := fun j h2 h1 h3 => by
    have := allN_get h3 (k - j) (by omega)
    rwa [show j + (k - j) = k by omega] at this
  rcases Nat.lt_or_ge k 16 with h1 | h1
  · exact part 0 (by omega) (by omega) step0
  rcases Nat.lt_or_ge k 32 with h2 | h2
  · exact part 16 (by omega) (by omega) step1
  rcases Nat.lt_or_ge k 48 with h3 | h3
  · exact part 32 (by omega) (by omega) step2
  rcases Nat.lt_or_ge k 64 with h4 | h4
  · exact part 48 (by omega) (by omega) step3
  rcases Nat.lt_or_ge k 80 with h5 | h5
  · exact part 64 (by omega) (by omega) step4
  rcases Nat.lt_or_ge k 96 with h6 | h6
  · exact part 80 (by omega) (by omega) step5
  rcases Nat.lt_or_ge k 112 with h7 | h7
  · exact part 96 (by omega) (by omega) step6
  rcases Nat.lt_or_ge k 128 with h8 | h8
  · exact part 112 (by omega) (by omega) step7
  rcases Nat.lt_or_ge k 144 with h9 | h9
  · exact part 128 (by omega) (by omega) step8
  rcases Nat.lt_or_ge k 160 with h10 | h10
  · exact part 144 (by omega) (by omega) step9
  rcases Nat.lt_or_ge k 176 with h11 | h11
  · exact part 160 (by omega) (by omega) step10
  rcases Nat.lt_or_ge k 192 with h12 | h12
  · exact part 176 (by omega) (by omega) step11
  rcases Nat.lt_or_ge k 208 with h13 | h13
  · exact part 192 (by omega) (by omega) step12
  rcases Nat.lt_or_ge k 224 with h14 | h14
  · exact part 208 (by omega) (by omega) step13
  rcases Nat.lt_or_ge k 240 with h15 | h15
  · exact part 224 (by omega) (by omega) step14
  rcases Nat.lt_or_ge k 256 with h16 | h16
  · exact part 240 (by omega) (by omega) step15
  rcases Nat.lt_or_ge k 272 with h17 | h17
  · exact part 256 (by omega) (by omega) step16
  rcases Nat.lt_or_ge k 288 with h18 | h18
  · exact part 272 (by omega) (by omega) step17
  rcases Nat.lt_or_ge k 304 with h19 | h19
  · exact part 288 (by omega) (by omega) step18
  rcases Nat.lt_or_ge k 320 with h20 | h20
  · exact part 304 (by omega) (by omega) step19
  rcases Nat.lt_or_ge k 336 with h21 | h21
  · exact part 320 (by omega) (by omega) step20
  rcases Nat.lt_or_ge k 352 with h22 | h22
  · exact part 336 (by omega) (by omega) step21
  rcases Nat.lt_or_ge k 368 with h23 | h23
  · exact part 352 (by omega) (by omega) step22
  rcases Nat.lt_or_ge k 384 with h24 | h24
  · exact part 368 (by omega) (by omega) step23
  rcases Nat.lt_or_ge k 400 with h25 | h25
  · exact part 384 (by omega) (by omega) step24
  rcases Nat.lt_or_ge k 416 with h26 | h26
  · exact part 400 (by omega) (by omega) step25
  rcases Nat.lt_or_ge k 432 with h27 | h27
  · exact part 416 (by omega) (by omega) step26
  rcases Nat.lt_or_ge k 448 with h28 | h28
  · exact part 432 (by omega) (by omega) step27
  rcases Nat.lt_or_ge k 464 with h29 | h29
  · exact part 448 (by omega) (by omega) step28
  rcases Nat.lt_or_ge k 480 with h30 | h30
  · exact part 464 (by omega) (by omega) step29
  rcases Nat.lt_or_ge k 496 with h31 | h31
  · exact part 480 (by omega) (by omega) step30
  exact part 496 (by omega) (by omega) step31
end Go.Proofs.Ytoeipbkoeclbeaa
