/- An atom's name as a map's key; a map of names. -/
import Derived.Test.YtdhpbfmamkndjaaMaps
import Derived.Test.YtdhpbfmamkndjaaDocA
import Derived.Maps.OwnSet
namespace Go.Proofs.Ytdhpbfmamkndjaa.Doc
open Go.RowKit Ox Go.WideMaps
set_option linter.unusedVariables false
set_option linter.unusedSimpArgs false
theorem laidOut : laidOutB Try.prog = true := by kernel_rfl
theorem types_ge' : decide (2 ≤ Try.prog.types.size) = true := by kernel_rfl
theorem types_ge : 2 ≤ Try.prog.types.size := of_decide_eq_true types_ge'
theorem row_atom' : decide ((106 : TypeId) < Try.prog.types.size) = true := by kernel_rfl
theorem row_atom : (106 : TypeId) < Try.prog.types.size := of_decide_eq_true row_atom'
theorem wide_atom : (match Try.prog.underlying 106 with | some (.array _ _) | some (.struct _) => true | _ => false) = true := by rw [Try.underlying106]
theorem law_atom : KeyLaw Try.prog 106 := deep_law_laid laidOut (m := 3) (by omega) row_atom (by kernel_rfl) (by simp only [Try.underlying106])
theorem zero_int (w : World) : (zeroValue 3).run Try.prog w = .ok (.int .i64 0) w := by kernel_rfl
theorem cells_atom : Try.prog.cellsOf 106 = 3 := by kernel_rfl
theorem cells_int : Try.prog.cellsOf 3 = 1 := by kernel_rfl
theorem keyType_atom : Try.prog.keyType 106 = true := by kernel_rfl
/-- what an atom's name reads as -/
def kf (c s n : Int) : Lit := .string (keyBytes [.int .i64 c, .int .i64 s, .int .i64 n])
theorem lits_atom (d : Nat) (c s n : Int) (h1 : (Lit.int .i64 c).wf = true) (h2 : (Lit.int .i64 s).wf = true) (h3 : (Lit.int .i64 n).wf = true) : Try.prog.keyLits (d + 3) 106 [.int .i64 c, .int .i64 s, .int .i64 n] = some [.int .i64 c, .int .i64 s, .int .i64 n] := by
  have e1 : ∀ x, (Lit.int .i64 x).wf = true → Try.prog.keyLits (d + 1) 3 [.int .i64 x] = some [.int .i64 x] := by
    intro x hx
    simp [Program.keyLits, Try.underlying3, hx]
  have e1' : ∀ x, (Lit.int .i64 x).wf = true → Try.prog.keyLits (d + 2) 3 [.int .i64 x] = some [.int .i64 x] := by
    intro x hx
    simp [Program.keyLits, Try.underlying3, hx]
  have e2 : Try.prog.keyLits (d + 2) 35 [.int .i64 c, .int .i64 s] = some [.int .i64 c, .int .i64 s] := by
    simp [Program.keyLits, Try.underlying35, Try.underlying3, cells_origin, cells_int, h1, h2]
  have e3 := e1' n h3
  unfold Program.keyLits
  simp only [Try.underlying106]
  generalize Try.prog.keyLits (d + 2) = F at *
  simp [cells_atom, cells_origin, cells_int, e2, e3]
theorem key_at (c s n : Int) (h1 : (Lit.int .i64 c).wf = true) (h2 : (Lit.int .i64 s).wf = true) (h3 : (Lit.int .i64 n).wf = true) : keyOf Try.prog 106 (.agg #[.int .i64 c, .int .i64 s, .int .i64 n]) = some (kf c s n) := by
  obtain ⟨d, hd⟩ : ∃ d, Try.prog.types.size + 1 = d + 3 := ⟨Try.prog.types.size - 2, by have := types_ge; omega⟩
  have hf : (Value.agg #[.int .i64 c, .int .i64 s, .int .i64 n]).formed Try.prog 106 = true := by simp [Value.formed, Try.underlying106, cells_atom]
  unfold keyOf
  simp only [Try.underlying106]
  rw [hf, keyType_atom, hd]
  simp only [Bool.and_self, if_true]
  rw [show (Value.agg #[.int .i64 c, .int .i64 s, .int .i64 n]).cells.toList = [.int .i64 c, .int .i64 s, .int .i64 n] by rfl, lits_atom d c s n h1 h2 h3]
  rfl

def wf64 (x : Int) : Prop := (Lit.int .i64 x).wf = true
theorem wf64_of {x : Int} (h : -9223372036854775808 ≤ x ∧ x ≤ 9223372036854775807) : (Lit.int .i64 x).wf = true := WalkArith.wf_i64 h
abbrev Nm := Int × Int × Int
def Nm.wf (x : Nm) : Prop := (Lit.int .i64 x.1).wf = true ∧ (Lit.int .i64 x.2.1).wf = true ∧ (Lit.int .i64 x.2.2).wf = true
def Nm.key (x : Nm) : Lit := kf x.1 x.2.1 x.2.2
theorem key_inj {x y : Nm} (hx : x.wf) (hy : y.wf) (h : x.key = y.key) : x = y := by
  have h1 := key_at x.1 x.2.1 x.2.2 hx.1 hx.2.1 hx.2.2
  have h2 := key_at y.1 y.2.1 y.2.2 hy.1 hy.2.1 hy.2.2
  have e : kf x.1 x.2.1 x.2.2 = kf y.1 y.2.1 y.2.2 := h
  rw [← e] at h2
  have := law_atom.inj h1 h2
  simp at this
  obtain ⟨a, b, c⟩ := x
  obtain ⟨a', b', c'⟩ := y
  simp_all
theorem key_is (x : Nm) : WideAt.IsKeyLit x.key := by unfold Nm.key kf; trivial
/-- the map of the names that were met, each once -/
structure Met (w : World) (b : Nat) (xs : List Nm) (D : DataW Unit) : Prop where
  own : w.ownsMap Try.prog 106 (plainElem Try.prog 3) b xs.length D
  wf : ∀ x ∈ xs, x.wf
  nodup : xs.Nodup
  at_ : ∀ x : Nm, x.wf → D.atKey x.key (.lit (.int .i64 0)) = .lit (.int .i64 (if x ∈ xs then 1 else 0))
  has_ : ∀ x : Nm, x.wf → Maps.has D x.key = decide (x ∈ xs)
  size : Maps.size D = xs.length

theorem Met.start (w : World) : Met (w.alloc (.map #[] 0)) w.heap.size [] (.map []) :=
  ⟨World.ownsMap_made _ _ _ _, by simp, List.nodup_nil, fun x _ => by simp [DataW.atKey], fun x _ => by simp [Maps.has], rfl⟩
theorem Met.kept {w w' : World} {b : Nat} {xs : List Nm} {D : DataW Unit} (h : Met w b xs D) {row : Option Nat} (hg : w.grownBy w' row) (hne : some b ≠ row) : Met w' b xs D :=
  ⟨h.own.kept hg hne, h.wf, h.nodup, h.at_, h.has_, h.size⟩
/-- a new name -/
theorem Met.put {w w' : World} {b : Nat} {xs : List Nm} {D : DataW Unit} (h : Met w b xs D) {x : Nm} (hx : x.wf) (hn : x ∉ xs) (ho : w'.ownsMap Try.prog 106 (plainElem Try.prog 3) b (xs.length + 1) (D.put x.key (.lit (.int .i64 1)))) :
    Met w' b (xs ++ [x]) (D.put x.key (.lit (.int .i64 1))) := by
  have ht := h.own.tidy (Maps.Keyed.of_law law_atom)
  refine ⟨by simpa using ho, ?_, ?_, fun y hy => ?_, ?_, ?_⟩
  · intro y hy
    rcases List.mem_append.1 hy with hy | hy
    · exact h.wf y hy
    · simp at hy; subst hy; exact hx
  · rw [List.nodup_append]
    refine ⟨h.nodup, by simp, ?_⟩
    intro a ha b hb
    simp at hb
    subst hb
    rintro rfl
    exact hn ha
  · by_cases e : y = x
    · subst e
      rw [Maps.atKey_put_same ht.isMap (key_is _)]
      simp
    · rw [Maps.atKey_put_other (fun he => e (key_inj hy hx he)), h.at_ y hy]
      simp [e]
  · intro y hy
    by_cases e : y = x
    · subst e
      rw [Maps.has_put_same ht.isMap (key_is _)]
      simp
    · rw [Maps.has_put_other (fun he => e (key_inj hy hx he)), h.has_ y hy]
      simp [e]
  · rw [Maps.size_put ht, h.has_ x hx, decide_eq_false hn, if_neg (by simp), h.size]
    simp
end Go.Proofs.Ytdhpbfmamkndjaa.Doc
