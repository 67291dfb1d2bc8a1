/- Atoms of oxbowref12 as values. Contract: Atom.Is. -/
import Derived.Test.YtdhpbfmamkndjaaDocE
namespace Go.Proofs.Ytdhpbfmamkndjaa.Doc
open Go.RowKit Ox
set_option linter.unusedVariables false
set_option linter.unusedSimpArgs false
theorem cells_atm : Try.prog.cellsOf 59 = 4 := by kernel_rfl
/-- an atom of the document: client, sequence number, number, code point -/
structure At where
  c : Int
  s : Int
  n : Int
  p : Int
def At.val (a : At) : Value := .agg #[.int .i64 a.c, .int .i64 a.s, .int .i64 a.n, .int .i64 a.p]
def At.row (a : At) : List Value := [.int .i64 a.c, .int .i64 a.s, .int .i64 a.n, .int .i64 a.p]
def At.nm (a : At) : Nm := (a.c, a.s, a.n)
def atRows (l : List At) : List Value := l.flatMap At.row
def isB (a b : At) : Bool := decide (a.nm = b.nm)
set_option maxRecDepth 100000 in
theorem is_any (a b : At) (w : World) : Calls Try.prog 44 #[a.val, b.val] w (Bool_ (isB a b) w) := by
  obtain ⟨ac, as_, an, ap⟩ := a
  obtain ⟨bc, bs, bn, bp⟩ := b
  have parts : (isB ⟨ac, as_, an, ap⟩ ⟨bc, bs, bn, bp⟩ = false ∧ ¬ ac = bc) ∨ (isB ⟨ac, as_, an, ap⟩ ⟨bc, bs, bn, bp⟩ = false ∧ ac = bc ∧ ¬ as_ = bs) ∨ (isB ⟨ac, as_, an, ap⟩ ⟨bc, bs, bn, bp⟩ = (an == bn) ∧ ac = bc ∧ as_ = bs) := by
    by_cases h1 : ac = bc <;> by_cases h2 : as_ = bs <;> by_cases h3 : an = bn <;> simp [isB, At.nm, h1, h2, h3]
  have hbl := ((Below.refl w.heap.size w).alloc (Nat.le_refl _) (.cells #[.int .i64 ac, .int .i64 as_, .int .i64 an, .int .i64 ap] 59))
  rcases parts with ⟨e, h1⟩ | ⟨e, h1, h2⟩ | ⟨e, h1, h2⟩
  · rw [e]
    clear e
    go_enter Try.func44, Try.ntmps44
    unfold At.val
    go_wp2
    go_ret
    exact bool_of rfl (((Below.refl w.heap.size w).alloc (Nat.le_refl _) _).alloc (by simp) _)
  · subst h1
    rw [e]
    clear e
    go_enter Try.func44, Try.ntmps44
    unfold At.val
    go_wp2
    go_ret
    exact bool_of rfl (((Below.refl w.heap.size w).alloc (Nat.le_refl _) _).alloc (by simp) _)
  · subst h1
    subst h2
    rw [e]
    clear e
    go_enter Try.func44, Try.ntmps44
    unfold At.val
    go_wp2
    go_ret
    exact bool_of rfl (((Below.refl w.heap.size w).alloc (Nat.le_refl _) _).alloc (by simp) _)
end Go.Proofs.Ytdhpbfmamkndjaa.Doc
