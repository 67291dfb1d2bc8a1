/- Which documents may be, in plain Lean. -/
import Derived.Test.YtdhpbfmamkndjaaDocC
import Derived.Test.YtdhpbfmamkndjaaDocD
namespace Go.Proofs.Ytdhpbfmamkndjaa.Doc
open Go.RowKit Ox
set_option linter.unusedVariables false
set_option linter.unusedSimpArgs false
def lenR (r : Rn) : Int := Text.lenOf r.t.data.toList
def namesR (r : Rn) : List Nm := (List.range (lenR r).toNat).map fun (j : Nat) => (r.c, r.s, r.f + (j : Int))
def names (l : List Rn) : List Nm := l.flatMap namesR
theorem names_append (a b : List Rn) : names (a ++ b) = names a ++ names b := by simp [names]
theorem names_snoc {l : List Rn} {k : Nat} {r : Rn} (h : l[k]? = some r) : names (l.take (k + 1)) = names (l.take k) ++ namesR r := by
  rw [take_snoc h, names_append]; simp [names]
theorem namesR_length (r : Rn) : (namesR r).length = (lenR r).toNat := by simp [namesR]
structure OkRun (r : Rn) : Prop where
  org : orgB r.c r.s = true
  len : 1 ≤ lenR r
  lo : 0 ≤ r.f
  hi : r.f ≤ 999
  last : r.f + lenR r ≤ 1000
structure Good (l : List Rn) : Prop where
  runs : ∀ (i : Nat) (r : Rn), l[i]? = some r → OkRun r
  apart : ∀ (i : Nat) (a b : Rn), l[i]? = some a → l[i + 1]? = some b → folB a b = false
  nodup : (names l).Nodup
  few : (names l).length ≤ 1000
theorem get_take {α : Type} {l : List α} {k i : Nat} {x : α} (h : (l.take k)[i]? = some x) : l[i]? = some x := by
  rw [List.getElem?_take] at h
  split at h
  · exact h
  · cases h
theorem Good.take {l : List Rn} (h : Good l) (k : Nat) : Good (l.take k) := by
  have e : names l = names (l.take k) ++ names (l.drop k) := by rw [← names_append, List.take_append_drop]
  refine ⟨fun i r hr => h.runs i r (get_take hr), fun i a b ha hb => h.apart i a b (get_take ha) (get_take hb), ?_, ?_⟩
  · have := h.nodup
    rw [e] at this
    exact (List.nodup_append.1 this).1
  · have := h.few
    rw [e, List.length_append] at this
    omega
theorem Good.nil : Good [] := ⟨fun i r h => by simp at h, fun i a b h => by simp at h, List.nodup_nil, Nat.zero_le _⟩
/-- one run more -/
theorem Good.snoc {l : List Rn} {k : Nat} {r : Rn} (h : Good (l.take k)) (hr : l[k]? = some r) (ho : OkRun r) (ha : ∀ (i : Nat) (a : Rn), k = i + 1 → l[i]? = some a → folB a r = false)
    (hn : (names (l.take k) ++ namesR r).Nodup) (hf : (names (l.take k) ++ namesR r).length ≤ 1000) : Good (l.take (k + 1)) := by
  have hk := (List.getElem?_eq_some_iff.1 hr).1
  refine ⟨fun i x hx => ?_, fun i a b h1 h2 => ?_, by rw [names_snoc hr]; exact hn, by rw [names_snoc hr]; exact hf⟩
  · rw [List.getElem?_take] at hx
    split at hx
    · rename_i hi
      rcases Nat.lt_or_ge i k with h1 | h1
      · exact h.runs i x (by rw [List.getElem?_take, if_pos h1]; exact hx)
      · obtain rfl : i = k := by omega
        rw [hr] at hx
        cases hx
        exact ho
    · cases hx
  · rw [List.getElem?_take] at h2
    split at h2
    · rename_i hi
      have h1' := get_take h1
      rcases Nat.lt_or_ge (i + 1) k with h3 | h3
      · exact h.apart i a b (by rw [List.getElem?_take, if_pos (by omega)]; exact h1') (by rw [List.getElem?_take, if_pos h3]; exact h2)
      · obtain rfl : k = i + 1 := by omega
        rw [hr] at h2
        cases h2
        exact ha i a rfl h1'
    · cases h2
/-- the error's number -/
noncomputable def chk (l : List Rn) : Int := open Classical in if Good l then 0 else 120
theorem chk_good {l : List Rn} (h : Good l) : chk l = 0 := by unfold chk; rw [if_pos h]
theorem chk_bad {l : List Rn} (h : ¬ Good l) : chk l = 120 := by unfold chk; rw [if_neg h]
theorem chk_run {l : List Rn} {k : Nat} {r : Rn} (hr : l[k]? = some r) (h : ¬ OkRun r) : chk l = 120 := chk_bad fun g => h (g.runs k r hr)
theorem chk_fol {l : List Rn} {k : Nat} {a b : Rn} (ha : l[k]? = some a) (hb : l[k + 1]? = some b) (h : folB a b = true) : chk l = 120 := chk_bad fun g => by
  have := g.apart k a b ha hb
  rw [h] at this
  cases this
theorem chk_dup {l : List Rn} {k : Nat} (h : ¬ (names (l.take k)).Nodup) : chk l = 120 := chk_bad fun g => h (g.take k).nodup
theorem chk_many {l : List Rn} {k : Nat} (h : 1000 < (names (l.take k)).length) : chk l = 120 := chk_bad fun g => by have := (g.take k).few; omega
theorem lenR_hi (r : Rn) : -1 ≤ lenR r ∧ lenR r ≤ r.t.size := by
  unfold lenR Text.lenOf
  cases hp : pts r.t.data.toList with
  | none => simp
  | some l => have := pts_length_le hp; have : r.t.data.toList.length = r.t.size := (by simp); simp only; omega
end Go.Proofs.Ytdhpbfmamkndjaa.Doc
