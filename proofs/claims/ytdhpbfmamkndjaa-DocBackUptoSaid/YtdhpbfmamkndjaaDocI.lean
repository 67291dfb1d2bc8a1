/- Contract: oxbowref12.Atoms. -/
import Derived.Test.YtdhpbfmamkndjaaDocH
namespace Go.Proofs.Ytdhpbfmamkndjaa.Doc
open Go.RowKit Ox
set_option linter.unusedVariables false
set_option linter.unusedSimpArgs false
theorem info_atm : (Try.prog.info? 59).map (fun i => (i.zero, i.size, i.bytes)) = some (some (.agg #[.int .i64 0, .int .i64 0, .int .i64 0, .int .i64 0]), 4, 32) := by kernel_rfl
def ptsL (r : Rn) : List Int := (pts r.t.data.toList).getD []
def atomsR (r : Rn) : List At := (List.range (ptsL r).length).map fun (j : Nat) => ⟨r.c, r.s, r.f + (j : Int), (ptsL r).getD j 0⟩
def atoms (l : List Rn) : List At := l.flatMap atomsR
theorem atoms_append (a b : List Rn) : atoms (a ++ b) = atoms a ++ atoms b := by simp [atoms]
theorem atoms_snoc {l : List Rn} {k : Nat} {r : Rn} (h : l[k]? = some r) : atoms (l.take (k + 1)) = atoms (l.take k) ++ atomsR r := by
  rw [take_snoc h, atoms_append]; simp [atoms]
theorem atomsR_length (r : Rn) : (atomsR r).length = (ptsL r).length := by simp [atomsR]
theorem atomsR_take {r : Rn} {i : Nat} {x : Int} (hx : (ptsL r)[i]? = some x) : (atomsR r).take (i + 1) = (atomsR r).take i ++ [⟨r.c, r.s, r.f + (i : Int), x⟩] := by
  refine take_snoc ?_
  have hi := (List.getElem?_eq_some_iff.1 hx).1
  unfold atomsR
  rw [List.getElem?_map, List.getElem?_range hi]
  simp [List.getD, hx]
/-- atoms of the call's own -/
def OwnA (w : World) (B : Nat) (v : Value) (l : List At) : Prop := w.ownsRow B 59 4 v l.length (atRows l)
end Go.Proofs.Ytdhpbfmamkndjaa.Doc
