/- What is known of a table that a law is handed. -/
import Derived.Test.YtldoffdakikaeaaDoorA18
import Derived.Test.YtldoffdakikaeaaDoorLG
namespace Go.V
def wfT (t : Tab) : Prop := fits t.classes ∧ (t.bands.length ≤ maxLen ∧ ∀ x ∈ t.bands, fits x.1 ∧ fits x.2) ∧ (t.next.length ≤ maxLen ∧ ∀ x ∈ t.next, x.length ≤ maxLen ∧ ∀ y ∈ x, fits y) ∧ (t.brk.length ≤ maxLen ∧ ∀ x ∈ t.brk, True)
theorem wide_wf {t : Tab} (w : wfT t) : wide t := by
  obtain ⟨_, ⟨h1, _⟩, ⟨h2, h4⟩, h3, _⟩ := w
  unfold maxLen at h1 h2 h3
  exact ⟨⟨by omega, by omega, by omega⟩, fun x hx => by have := (h4 x hx).1; unfold maxLen at this; omega⟩
end Go.V
