/- A region whose order is open: an operation that is guarded away is passed first. -/
import Derived.Test.YtkcfmjlcijhieaaGreatQB09
set_option linter.unusedSimpArgs false
set_option linter.unusedVariables false
namespace Go.Proofs.YtkcfmjlcijhieaaGreat
open Go.RowKit
section
variable {P : Program} {ops : Array Oper} {Q : Exit → Act → World → Prop} {md : Region.Mode} {C : World → Prop} {last : Nat}
theorem wpIn_skipV (i : Nat) (l : List Nat) {oi : Oper} {fuel : Nat} {listed : Array Bool} {a : Act} {w : World} (hi : ops[i]? = some oi)
    (hs : Region.noSelect ops = true) (hf : Region.free md ops listed i = true) (hr : (Region.ready md ops listed).contains i = true) (hne : (i != last) = true) (hch : chainB md ops last i l = true) (hsh : shutB md ops listed = true) (hll : listed.getD last false = false)
    (hw : Region.wanted oi (yielded ops a.tmps) = false) (hQ : ∀ c a w, Q (.panic c) (a.put oi.dst undef) w → Q (.panic c) a w) (hC : C w)
    (h : wpIn P md ops last C Q fuel (listed.setIfInBounds i true) (a.put oi.dst undef) w) : wpIn P md ops last C Q (fuel + 1) listed a w :=
  wpIn_first2 hi (Region.noSelect_spec hs) (by simpa using hne) hch hQ fuel listed a w (Region.free_spec hi hf) (shutB_spec hsh) (by simpa using hr) hll hC (.inr ⟨hw, rfl⟩) h
end
end Go.Proofs.YtkcfmjlcijhieaaGreat
