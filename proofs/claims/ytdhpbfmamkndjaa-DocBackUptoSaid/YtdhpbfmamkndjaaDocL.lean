/- oxbowref12.Check: the first loop's relation. -/
import Derived.Test.YtdhpbfmamkndjaaDocK
namespace Go.Proofs.Ytdhpbfmamkndjaa.Doc
open Go.RowKit Ox
set_option linter.unusedVariables false
set_option linter.unusedSimpArgs false
/-- all of 'Good' but that a name may stand twice -/
structure Pre (l : List Rn) : Prop where
  runs : ∀ (i : Nat) (r : Rn), l[i]? = some r → OkRun r
  apart : ∀ (i : Nat) (a b : Rn), l[i]? = some a → l[i + 1]? = some b → folB a b = false
  few : (names l).length ≤ 1000
theorem Pre.good {l : List Rn} (h : Pre l) (hn : (names l).Nodup) : Good l := ⟨h.runs, h.apart, hn, h.few⟩
theorem Pre.nil : Pre [] := ⟨fun i r h => by simp at h, fun i a b h => by simp at h, Nat.zero_le _⟩
theorem Pre.snoc {l : List Rn} {k : Nat} {r : Rn} (h : Pre (l.take k)) (hr : l[k]? = some r) (ho : OkRun r) (ha : ∀ (i : Nat) (a : Rn), k = i + 1 → l[i]? = some a → folB a r = false) (hf : (names (l.take k) ++ namesR r).length ≤ 1000) : Pre (l.take (k + 1)) := by
  refine ⟨fun i x hx => ?_, fun i a b h1 h2 => ?_, by rw [names_snoc hr]; exact hf⟩
  · rw [List.getElem?_take] at hx
    split at hx
    · rename_i hi
      rcases Nat.lt_or_ge i k with h1 | h1
      · exact h.runs i x (by rw [List.getElem?_take, if_pos h1]; exact hx)
      · obtain rfl : i = k := by omega
        rw [hr] at hx
        cases hx
        exact ho
    · cases hx
  · rw [List.getElem?_take] at h2
    split at h2
    · rename_i hi
      have h1' := get_take h1
      rcases Nat.lt_or_ge (i + 1) k with h3 | h3
      · exact h.apart i a b (by rw [List.getElem?_take, if_pos (by omega)]; exact h1') (by rw [List.getElem?_take, if_pos h3]; exact h2)
      · obtain rfl : k = i + 1 := by omega
        rw [hr] at h2
        cases h2
        exact ha i a rfl h1'
    · cases h2
end Go.Proofs.Ytdhpbfmamkndjaa.Doc
