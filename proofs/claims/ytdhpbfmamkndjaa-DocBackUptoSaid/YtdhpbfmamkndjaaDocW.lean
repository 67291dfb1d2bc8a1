/- Plain: what a delta makes of a document. -/
import Derived.Test.YtdhpbfmamkndjaaDocV
namespace Go.Proofs.Ytdhpbfmamkndjaa.Doc
open Go.RowKit Ox
set_option linter.unusedVariables false
set_option linter.unusedSimpArgs false
def insR (oc os : Int) (fr : Nat) (x : Opn) : Rn := ⟨oc, os, (fr : Int), x.t⟩
def astep (A : List At) (oc os : Int) (s : List At × Nat × Nat) (x : Opn) : List At × Nat × Nat :=
  if kOf x = 2 then (s.1 ++ atomsR (insR oc os s.2.2 x), s.2.1, s.2.2 + (ptsL (insR oc os s.2.2 x)).length)
  else (s.1 ++ (if kOf x = 1 then (A.drop s.2.1).take x.n.toNat else []), s.2.1 + x.n.toNat, s.2.2)
/-- the atoms so far, how many of the document are passed, how many are new -/
def stOf (A : List At) (oc os : Int) (d : List Opn) : List At × Nat × Nat := d.foldl (astep A oc os) ([], 0, 0)
theorem st_snoc (A : List At) (oc os : Int) {d : List Opn} {k : Nat} {x : Opn} (h : d[k]? = some x) : stOf A oc os (d.take (k + 1)) = astep A oc os (stOf A oc os (d.take k)) x := by
  unfold stOf
  rw [take_snoc h, List.foldl_append]
  rfl
theorem ins_val {oc os : Int} {fr : Nat} {x : Opn} (h : kOf x = 2) : Val (insR oc os fr x) := by
  rcases kOf_cases x with ⟨g, _⟩ | ⟨g, _⟩ | ⟨_, _, _, g⟩ | g
  · rw [g] at h; cases h
  · rw [g] at h; cases h
  · unfold lenO Text.lenOf at g
    cases hp : pts x.t.data.toList with
    | none => rw [hp] at g; simp at g
    | some ps => exact ⟨ps, hp, by rintro rfl; rw [hp] at g; simp at g⟩
  · rw [g] at h; cases h
theorem ins_len {oc os : Int} {fr : Nat} {x : Opn} (h : kOf x = 2) : lenO x = ((ptsL (insR oc os fr x)).length : Int) := (ins_val (oc := oc) (os := os) (fr := fr) h).len
theorem opB_ins {x : Opn} (h : kOf x = 2) : opB x = 0 := by unfold opB; rw [if_neg (by rw [h]; decide)]
theorem opT_ins {x : Opn} (h : kOf x = 2) : opT x = lenO x := by unfold opT; rw [if_neg (by rw [h]; decide), if_pos h]
theorem opT_nonneg (x : Opn) : 0 ≤ opT x := by
  unfold opT
  split
  · rename_i h
    rcases kOf_cases x with ⟨g, _, _, g3, _⟩ | ⟨g, _⟩ | ⟨g, _⟩ | g <;> first | omega | (rw [g] at h; cases h)
  · split
    · rename_i h
      rcases kOf_cases x with ⟨g, _⟩ | ⟨g, _⟩ | ⟨_, _, _, g⟩ | g <;> first | omega | (rw [g] at h; cases h)
    · omega
/-- a good delta's state -/
structure StOk (A : List At) (d : List Opn) (s : List At × Nat × Nat) : Prop where
  at_ : (s.2.1 : Int) = sumOf opB d
  fr : (s.2.2 : Int) ≤ sumOf opT d
  len : (s.1.length : Int) ≤ sumOf opT d
theorem st_ok (A : List At) (oc os : Int) (d : List Opn) (ho : ∀ x ∈ d, kOf x ≠ 0) : ∀ k, k ≤ d.length → StOk A (d.take k) (stOf A oc os (d.take k))
  | 0, _ => ⟨rfl, by simp [stOf, sumOf], by simp [stOf, sumOf]⟩
  | k + 1, hk => by
    have ih := st_ok A oc os d ho k (by omega)
    have hx : d[k]? = some (d[k]'(by omega)) := List.getElem?_eq_getElem (by omega)
    generalize d[k]'(by omega) = x at hx
    have hk0 := ho x (List.mem_of_getElem? hx)
    rw [st_snoc A oc os hx]
    obtain ⟨h1, h2, h3⟩ := ih
    have hT := opT_nonneg x
    obtain ⟨hb1, hb2⟩ := opB_n hk0
    unfold astep
    by_cases h : kOf x = 2
    · rw [if_pos h]
      have hl := ins_len (oc := oc) (os := os) (fr := (stOf A oc os (d.take k)).2.2) h
      refine ⟨?_, ?_, ?_⟩
      · rw [sumOf_snoc _ hx, opB_ins h]; simp only; omega
      · rw [sumOf_snoc _ hx, opT_ins h, hl]; simp only; omega
      · rw [sumOf_snoc _ hx, opT_ins h, hl]; simp only [List.length_append, atomsR_length]; omega
    · rw [if_neg h]
      refine ⟨?_, ?_, ?_⟩
      · rw [sumOf_snoc _ hx, hb1]; simp only; omega
      · rw [sumOf_snoc _ hx]; simp only; omega
      · rw [sumOf_snoc _ hx]
        simp only [List.length_append]
        by_cases h4 : kOf x = 1
        · rw [if_pos h4]
          have : opT x = x.n := by unfold opT; rw [if_pos h4]
          rw [List.length_take]
          omega
        · rw [if_neg h4]; simp; omega
theorem stOf_fit (A : List At) (oc os : Int) (d : List Opn) (hA : Fit A) (ho : ∀ x ∈ d, kOf x ≠ 0) (hs : sumOf opT d ≤ 1000) : ∀ k, k ≤ d.length → Fit (stOf A oc os (d.take k)).1
  | 0, _ => fun x h => by simp [stOf] at h
  | k + 1, hk => by
    have ih := stOf_fit A oc os d hA ho hs k (by omega)
    have hst := st_ok A oc os d ho k (by omega)
    have hx : d[k]? = some (d[k]'(by omega)) := List.getElem?_eq_getElem (by omega)
    generalize d[k]'(by omega) = x at hx
    rw [st_snoc A oc os hx]
    unfold astep
    by_cases h : kOf x = 2
    · rw [if_pos h]
      refine ih.append fun y hy => ?_
      have hv := ins_val (oc := oc) (os := os) (fr := (stOf A oc os (d.take k)).2.2) h
      refine ⟨atomsR_pt hv y hy, ?_⟩
      unfold atomsR at hy
      obtain ⟨j, hj, rfl⟩ := List.mem_map.1 hy
      have hj' : j < (ptsL (insR oc os (stOf A oc os (d.take k)).2.2 x)).length := by simpa using hj
      have h5 := sumOf_take_le opT d (k + 1) fun y _ => opT_nonneg y
      rw [sumOf_snoc _ hx, opT_ins h, ins_len (oc := oc) (os := os) (fr := (stOf A oc os (d.take k)).2.2) h] at h5
      have h6 := hst.fr
      simp only [insR]
      simp only [insR] at hj' h5
      omega
    · rw [if_neg h]
      refine ih.append ?_
      split
      · exact (hA.drop _).take _
      · exact fun y hy => by simp at hy
def HasO (l : List Rn) (oc os : Int) : Prop := ∃ r ∈ l, r.c = oc ∧ r.s = os
/-- what comes out, and the error's number -/
noncomputable def applyOf (l : List Rn) (d : List Opn) (oc os : Int) : Option (List At) × Int := open Classical in
  if ¬ Good l then (none, 120) else if chk9 d ≠ 0 then (none, chk9 d) else if sumOf opB d ≠ (atoms l).length then (none, 91) else if orgB oc os = false then (none, 1) else if HasO l oc os then (none, 1) else (some (stOf (atoms l) oc os d).1, 0)
theorem ap_1 {l : List Rn} {d : List Opn} {oc os : Int} (h : ¬ Good l) : applyOf l d oc os = (none, 120) := by unfold applyOf; rw [if_pos h]
theorem ap_2 {l : List Rn} {d : List Opn} {oc os : Int} (h : Good l) (h2 : chk9 d ≠ 0) : applyOf l d oc os = (none, chk9 d) := by unfold applyOf; rw [if_neg (fun g => g h), if_pos h2]
theorem ap_3 {l : List Rn} {d : List Opn} {oc os : Int} (h : Good l) (h2 : chk9 d = 0) (h3 : sumOf opB d ≠ (atoms l).length) : applyOf l d oc os = (none, 91) := by unfold applyOf; rw [if_neg (fun g => g h), if_neg (fun g => g h2), if_pos h3]
theorem ap_4 {l : List Rn} {d : List Opn} {oc os : Int} (h : Good l) (h2 : chk9 d = 0) (h3 : sumOf opB d = (atoms l).length) (h4 : orgB oc os = false) : applyOf l d oc os = (none, 1) := by unfold applyOf; rw [if_neg (fun g => g h), if_neg (fun g => g h2), if_neg (fun g => g h3), if_pos h4]
theorem ap_5 {l : List Rn} {d : List Opn} {oc os : Int} (h : Good l) (h2 : chk9 d = 0) (h3 : sumOf opB d = (atoms l).length) (h4 : orgB oc os = true) (h5 : HasO l oc os) : applyOf l d oc os = (none, 1) := by unfold applyOf; rw [if_neg (fun g => g h), if_neg (fun g => g h2), if_neg (fun g => g h3), if_neg (by rw [h4]; simp), if_pos h5]
theorem ap_6 {l : List Rn} {d : List Opn} {oc os : Int} (h : Good l) (h2 : chk9 d = 0) (h3 : sumOf opB d = (atoms l).length) (h4 : orgB oc os = true) (h5 : ¬ HasO l oc os) : applyOf l d oc os = (some (stOf (atoms l) oc os d).1, 0) := by unfold applyOf; rw [if_neg (fun g => g h), if_neg (fun g => g h2), if_neg (fun g => g h3), if_neg (by rw [h4]; simp), if_neg h5]
def ApRes (q : Option (List At) × Int) (w : World) (e : Ending) (w' : World) : Prop := Below w.heap.size w w' ∧ match q.1 with
  | none => e = .returned (.tuple #[.slice none 0 0, .int .i64 q.2])
  | some a => ∃ v, e = .returned (.tuple #[v, .int .i64 q.2]) ∧ OwnR w' w.heap.size v (runsOf a)
theorem ap_none {q : Option (List At) × Int} {x : Int} {w w' : World} (h : q = (none, x)) (hb : Below w.heap.size w w') : ApRes q w (.returned (.tuple #[.slice none 0 0, .int .i64 x])) w' := by rw [h]; exact ⟨hb, rfl⟩
theorem ap_some {q : Option (List At) × Int} {a : List At} {v : Value} {w w' : World} (h : q = (some a, 0)) (hb : Below w.heap.size w w') (ho : OwnR w' w.heap.size v (runsOf a)) : ApRes q w (.returned (.tuple #[v, .int .i64 0])) w' := by rw [h]; exact ⟨hb, v, rfl, ho⟩
theorem own_base {w : World} {B B' : Nat} {v : Value} {X : List Rn} (h : OwnR w B v X) (hb : B' ≤ B) : OwnR w B' v X := by
  refine ⟨h.1, ?_⟩
  rcases h.2 with h1 | ⟨g, cap, cur, h1, h2, h3⟩
  · exact .inl h1
  · exact .inr ⟨g, cap, cur, h1, Nat.le_trans hb h2, h3⟩
theorem Left.trans {l R R' : List Rn} {i j : Nat} (h : Left l R i) (h2 : Left R R' j) : Left l R' (i + j) := ⟨h2.val, by rw [h2.eqn, h.eqn, List.drop_drop]⟩
theorem good_fit {l : List Rn} (h : Good l) : Fit (atoms l) := by
  intro x hx
  refine ⟨atoms_pt h.val x hx, ?_⟩
  obtain ⟨r, hr, hx⟩ := List.mem_flatMap.1 hx
  obtain ⟨i, hi, rfl⟩ := List.getElem_of_mem hr
  have hk := h.runs i _ (List.getElem?_eq_getElem hi)
  have h1 := hk.lo
  have h2 := hk.last
  rw [(h.val _ hr).lenR] at h2
  unfold atomsR at hx
  obtain ⟨j, hj, rfl⟩ := List.mem_map.1 hx
  have hj' : j < (ptsL l[i]).length := by simpa using hj
  simp only
  omega
end Go.Proofs.Ytdhpbfmamkndjaa.Doc
