/- Plain: what a reader takes of a document. -/
import Derived.Test.YtdhpbfmamkndjaaDocT
namespace Go.Proofs.Ytdhpbfmamkndjaa.Doc
open Go.RowKit Ox
set_option linter.unusedVariables false
set_option linter.unusedSimpArgs false
/-- a run without its first k code points -/
def Rn.rest (r : Rn) (k : Nat) : Rn := ⟨r.c, r.s, r.f + (k : Int), ⟨(txt ((Doc.ptsL r).drop k)).toArray⟩⟩
theorem pts_ok {r : Rn} (h : Val r) : ∀ v ∈ ptsL r, isPt v = true := pts_valid h.ptsL.1
theorem val_head {r : Rn} (h : Val r) {k : Nat} (h1 : 1 ≤ k) : Val (r.pre ((ptsL r).take k)) ∧ ptsL (r.pre ((ptsL r).take k)) = (ptsL r).take k :=
  val_pre (fun v hv => pts_ok h v (List.mem_of_mem_take hv)) (fun e => by
    have h2 := List.length_pos_iff.2 h.ptsL.2
    have h3 := congrArg List.length e
    rw [List.length_take, List.length_nil] at h3
    omega)
theorem atoms_head {r : Rn} (h : Val r) {k : Nat} (h1 : 1 ≤ k) (h2 : k ≤ (ptsL r).length) : atomsR (r.pre ((ptsL r).take k)) = (atomsR r).take k := by
  unfold atomsR
  rw [(val_head h h1).2, List.length_take, Nat.min_eq_left h2, ← List.map_take, List.take_range, Nat.min_eq_left h2]
  refine List.map_congr_left fun j hj => ?_
  have hj' : j < k := by simpa using hj
  simp [Rn.pre, List.getD, List.getElem?_take, hj']
theorem val_rest {r : Rn} (h : Val r) {k : Nat} (h2 : k < (ptsL r).length) : Val (r.rest k) ∧ ptsL (r.rest k) = (ptsL r).drop k := by
  have hne : (ptsL r).drop k ≠ [] := fun e => by
    have h3 := congrArg List.length e
    rw [List.length_drop, List.length_nil] at h3
    omega
  have e : pts (r.rest k).t.data.toList = some ((ptsL r).drop k) := pts_txt fun v hv => pts_ok h v (List.mem_of_mem_drop hv)
  refine ⟨⟨_, e, hne⟩, ?_⟩
  show (pts (r.rest k).t.data.toList).getD [] = _
  rw [e]
  rfl
theorem atoms_rest {r : Rn} (h : Val r) {k : Nat} (h2 : k < (ptsL r).length) : atomsR (r.rest k) = (atomsR r).drop k := by
  have e := (val_rest h h2).2
  apply List.ext_getElem?
  intro i
  rw [List.getElem?_drop]
  unfold atomsR
  rw [e, List.getElem?_map, List.getElem?_map, List.length_drop]
  by_cases hi : i < (ptsL r).length - k
  · rw [List.getElem?_range hi, List.getElem?_range (by omega)]
    simp only [Option.map_some, Rn.rest, List.getD, List.getElem?_drop, Option.some.injEq, At.mk.injEq, true_and, and_true]
    omega
  · rw [List.getElem?_eq_none (by simpa using hi), List.getElem?_eq_none (by simp; omega)]
    rfl
theorem addD_val {R : List Rn} {r : Rn} (h : Val r) : addD R r = addR R r := by
  unfold addD
  rw [if_neg]
  intro e
  rw [ByteArray.toList_eq] at e
  have := h.ptsL
  rw [e, pts_nil] at this
  exact this.2 (Option.some.inj this.1).symm
theorem addD_runs {a : List At} (ha : ∀ x ∈ a, isPt x.p = true) {r : Rn} (h : Val r) : addD (runsOf a) r = runsOf (a ++ atomsR r) := by rw [addD_val h, runs_add ha h]
/-- atoms that runs may be made of -/
def Fit (a : List At) : Prop := ∀ x ∈ a, isPt x.p = true ∧ 0 ≤ x.n ∧ x.n ≤ 1000000000
theorem Fit.pt {a : List At} (h : Fit a) : ∀ x ∈ a, isPt x.p = true := fun x hx => (h x hx).1
theorem Fit.append {a b : List At} (h : Fit a) (h2 : Fit b) : Fit (a ++ b) := fun x hx => by
  rcases List.mem_append.1 hx with h3 | h3
  · exact h x h3
  · exact h2 x h3
theorem Fit.take {a : List At} (h : Fit a) (k : Nat) : Fit (a.take k) := fun x hx => h x (List.mem_of_mem_take hx)
theorem Fit.drop {a : List At} (h : Fit a) (k : Nat) : Fit (a.drop k) := fun x hx => h x (List.mem_of_mem_drop hx)
/-- what add asks of the runs of atoms -/
theorem Fit.runs {a : List At} (h : Fit a) (hl : a.length ≤ 100000000000) : ∀ q ∈ runsOf a, q.t.size ≤ 1000000000000 ∧ 0 ≤ q.f ∧ q.f ≤ 1000000000000000 := by
  intro q hq
  have hi := runs_inv h.pt
  have hv := hi.val q hq
  have hs : q.t.size ≤ (bytesOf (runsOf a)).length := by
    obtain ⟨l1, l2, e⟩ := List.append_of_mem hq
    rw [e]
    have e2 : l1 ++ q :: l2 = l1 ++ ([q] ++ l2) := rfl
    rw [e2, bytesOf_append, bytesOf_append, List.length_append, List.length_append]
    have : (bytesOf [q]).length = q.t.size := by simp [bytesOf]
    omega
  have h1 := flat_le a
  rw [← (runs_bytes a).1] at h1
  have hne := List.length_pos_iff.2 hv.ptsL.2
  have hfirst : (⟨q.c, q.s, q.f, (ptsL q).getD 0 0⟩ : At) ∈ atomsR q := by
    unfold atomsR
    exact List.mem_map.2 ⟨0, by simpa using hne, by simp⟩
  have hm : (⟨q.c, q.s, q.f, (ptsL q).getD 0 0⟩ : At) ∈ a := by rw [← hi.atoms]; exact List.mem_flatMap.2 ⟨q, hq, hfirst⟩
  have h2 := h _ hm
  simp only at h2
  omega
/-- a document that is being read: j atoms of it are taken -/
structure Left (R0 R : List Rn) (j : Nat) : Prop where
  val : ∀ r ∈ R, Val r
  eqn : atoms R = (atoms R0).drop j
theorem Left.start {R0 : List Rn} (h : ∀ r ∈ R0, Val r) : Left R0 R0 0 := ⟨h, rfl⟩
theorem Left.le {R0 R : List Rn} {j : Nat} (h : Left R0 R j) : (atoms R).length = (atoms R0).length - j := by rw [h.eqn, List.length_drop]
theorem atoms_cons (r : Rn) (R : List Rn) : atoms (r :: R) = atomsR r ++ atoms R := by simp [atoms]
/-- the whole first run is taken -/
theorem Left.whole {R0 R : List Rn} {r : Rn} {j : Nat} (h : Left R0 (r :: R) j) : Left R0 R (j + (ptsL r).length) ∧ ((atoms R0).drop j).take (ptsL r).length = atomsR r ∧ j + (ptsL r).length ≤ (atoms R0).length := by
  have e := h.eqn
  rw [atoms_cons] at e
  have hv := (h.val r (by simp)).ptsL.2
  have hp := List.length_pos_iff.2 hv
  refine ⟨⟨fun x hx => h.val x (by simp [hx]), ?_⟩, ?_, ?_⟩
  · rw [← List.drop_drop, ← e, List.drop_left' (atomsR_length r)]
  · rw [← e, List.take_left' (atomsR_length r)]
  · have := congrArg List.length e
    rw [List.length_append, atomsR_length, List.length_drop] at this
    omega
/-- a part of the first run is taken -/
theorem Left.part {R0 R : List Rn} {r : Rn} {j k : Nat} (h : Left R0 (r :: R) j) (hk : k < (ptsL r).length) : Left R0 (r.rest k :: R) (j + k) ∧ ((atoms R0).drop j).take k = (atomsR r).take k ∧ j + k ≤ (atoms R0).length := by
  have e := h.eqn
  rw [atoms_cons] at e
  have hr := h.val r (by simp)
  refine ⟨⟨fun x hx => ?_, ?_⟩, ?_, ?_⟩
  · rcases List.mem_cons.1 hx with rfl | h1
    · exact (val_rest hr hk).1
    · exact h.val x (by simp [h1])
  · rw [← List.drop_drop, ← e, List.drop_append_of_le_length (by rw [atomsR_length]; omega), atoms_cons, atoms_rest hr hk]
  · rw [← e, List.take_append_of_le_length (by rw [atomsR_length]; omega)]
  · have := congrArg List.length e
    rw [List.length_append, atomsR_length, List.length_drop] at this
    omega
theorem take_add_drop {α : Type} (l : List α) (j k : Nat) : l.take (j + k) = l.take j ++ (l.drop j).take k := by rw [List.take_add]
end Go.Proofs.Ytdhpbfmamkndjaa.Doc
