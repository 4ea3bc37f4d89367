/- The reference reads an entry: parts. No conditions beyond those in the theorems. -/
import Derived.Test.YtbcnlbnimabdeaaU8
import Derived.Test.YtbcnlbnimabdeaaU4
import Derived.Test.YtbcnlbnimabdeaaT5
set_option linter.all false
set_option linter.deprecated false
set_option linter.unnecessarySimpa false
set_option linter.unusedVariables false
set_option linter.unusedSimpArgs false
set_option linter.defProp false
namespace Go.Proofs.Eng
open Go Go.Proofs
set_option maxRecDepth 100000
set_option maxHeartbeats 8000000
theorem Fl.comp {a b c : Bool} {G N G2 N2 G3 N3 : Prop} (h1 : Fl a b G N) (h2 : Fl b c G2 N2) (hg : G → G2 → G3) (hn : N → N3) (hn2 : G → N2 → N3) : Fl a c G3 N3 := by
  rcases h1 with ⟨rfl, rfl, g⟩ | ⟨rfl, h⟩
  · rcases h2 with ⟨_, rfl, g2⟩ | ⟨rfl, h2⟩
    · exact Or.inl ⟨rfl, rfl, hg g g2⟩
    · rcases h2 with h2 | h2
      · cases h2
      · exact Or.inr ⟨rfl, Or.inr (hn2 g h2)⟩
  · rcases h2 with ⟨h2, _⟩ | ⟨rfl, _⟩
    · cases h2
    · rcases h with h | h
      · exact Or.inr ⟨rfl, Or.inl h⟩
      · exact Or.inr ⟨rfl, Or.inr (hn h)⟩
theorem Fl.mono {a b : Bool} {G N G2 N2 : Prop} (h : Fl a b G N) (hg : G → G2) (hn : N → N2) : Fl a b G2 N2 := by
  rcases h with ⟨h1, h2, g⟩ | ⟨h1, h2⟩
  · exact Or.inl ⟨h1, h2, hg g⟩
  · exact Or.inr ⟨h1, h2.imp id hn⟩
end Go.Proofs.Eng
