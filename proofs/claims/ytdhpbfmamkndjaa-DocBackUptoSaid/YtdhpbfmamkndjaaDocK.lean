/- Plain: the atoms' names are the document's names; Find tells whether one stands twice. -/
import Derived.Test.YtdhpbfmamkndjaaDocJ
namespace Go.Proofs.Ytdhpbfmamkndjaa.Doc
open Go.RowKit Ox
set_option linter.unusedVariables false
set_option linter.unusedSimpArgs false
theorem lenR_pts (r : Rn) : (lenR r).toNat = (ptsL r).length := by
  unfold lenR Text.lenOf ptsL
  cases pts r.t.data.toList <;> simp
theorem atomsR_nm (r : Rn) : (atomsR r).map At.nm = namesR r := by
  unfold atomsR namesR
  rw [lenR_pts, List.map_map]
  rfl
theorem atoms_nm : ∀ l : List Rn, (atoms l).map At.nm = names l
  | [] => rfl
  | r :: l => by
    have h := atoms_nm l
    simp only [atoms, names, List.flatMap_cons, List.map_append] at h ⊢
    rw [atomsR_nm, h]
/-- a name stands twice: Find at its second place tells the first -/
theorem nodup_of_find {l : List At} (h : ∀ (i : Nat) (a : At), l[i]? = some a → findOf l a = i) : (l.map At.nm).Nodup := by
  unfold List.Nodup
  rw [List.pairwise_iff_getElem]
  intro i j hi hj hij he
  simp only [List.length_map] at hi hj
  simp only [List.getElem_map] at he
  have h1 := h i _ (List.getElem?_eq_getElem (show i < l.length by omega))
  have h2 := h j _ (List.getElem?_eq_getElem hj)
  have e : findOf l l[i] = findOf l l[j] := by unfold findOf isB; rw [he]
  omega
/-- .. and where no name stands twice, Find tells each its own place -/
theorem find_of_nodup {l : List At} (h : (l.map At.nm).Nodup) {i : Nat} {a : At} (ha : l[i]? = some a) : findOf l a = i := by
  refine find_hit ha (by simp [isB]) fun j y hj hy => ?_
  obtain ⟨hi, rfl⟩ := List.getElem?_eq_some_iff.1 ha
  obtain ⟨hj', rfl⟩ := List.getElem?_eq_some_iff.1 hy
  unfold List.Nodup at h
  rw [List.pairwise_iff_getElem] at h
  have := h j i (by simpa using hj') (by simpa using hi) hj
  simp only [List.getElem_map] at this
  simpa [isB] using this
end Go.Proofs.Ytdhpbfmamkndjaa.Doc
