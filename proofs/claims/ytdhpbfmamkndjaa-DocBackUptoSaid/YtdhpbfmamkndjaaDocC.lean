/- Contracts: doc.follows. -/
import Derived.Test.YtdhpbfmamkndjaaDocB
import Derived.Deep.RegionHeld3
import Derived.IntWalk
namespace Go.Proofs.Ytdhpbfmamkndjaa.Doc
open Go.RowKit Ox
set_option linter.unusedVariables false
set_option linter.unusedSimpArgs false
/-- two boxed runs, and what lies below is as it was -/
def Two (w0 : World) (a b : Rn) (w : World) : Prop := Below w0.heap.size w0 w ∧ w0.heap.size + 2 ≤ w.heap.size ∧
  w.cell? ⟨w0.heap.size, 0, none⟩ = some (.int .i64 a.c) ∧ w.cell? ⟨w0.heap.size, 1, none⟩ = some (.int .i64 a.s) ∧ w.cell? ⟨w0.heap.size, 2, none⟩ = some (.int .i64 a.f) ∧ w.cell? ⟨w0.heap.size, 3, none⟩ = some (.string a.t) ∧
  w.cell? ⟨w0.heap.size + 1, 0, none⟩ = some (.int .i64 b.c) ∧ w.cell? ⟨w0.heap.size + 1, 1, none⟩ = some (.int .i64 b.s) ∧ w.cell? ⟨w0.heap.size + 1, 2, none⟩ = some (.int .i64 b.f) ∧ w.cell? ⟨w0.heap.size + 1, 3, none⟩ = some (.string b.t)
theorem Two.next {w0 w w' : World} {a b : Rn} (h : Two w0 a b w) (hb : Below w.heap.size w w') : Two w0 a b w' := by
  obtain ⟨h0, h1, c⟩ := h
  have hs := hb.size
  refine ⟨below_next h0 hb (by omega), by omega, ?_⟩
  obtain ⟨c1, c2, c3, c4, c5, c6, c7, c8⟩ := c
  exact ⟨(hb.cell (by simp; omega)).trans c1, (hb.cell (by simp; omega)).trans c2, (hb.cell (by simp; omega)).trans c3, (hb.cell (by simp; omega)).trans c4, (hb.cell (by simp; omega)).trans c5, (hb.cell (by simp; omega)).trans c6, (hb.cell (by simp; omega)).trans c7, (hb.cell (by simp; omega)).trans c8⟩
theorem Two.start (w : World) (a b : Rn) (ty : TypeId) : Two w a b ((w.alloc (.cells #[.int .i64 a.c, .int .i64 a.s, .int .i64 a.f, .string a.t] ty)).alloc (.cells #[.int .i64 b.c, .int .i64 b.s, .int .i64 b.f, .string b.t] ty)).drew := by
  have h1 := Blk.new w ty #[.int .i64 a.c, .int .i64 a.s, .int .i64 a.f, .string a.t]
  have h2 := Blk.new (w.alloc (.cells #[.int .i64 a.c, .int .i64 a.s, .int .i64 a.f, .string a.t] ty)) ty #[.int .i64 b.c, .int .i64 b.s, .int .i64 b.f, .string b.t]
  have h3 := h1.alloc (.cells #[.int .i64 b.c, .int .i64 b.s, .int .i64 b.f, .string b.t] ty)
  have e : (w.alloc (.cells #[.int .i64 a.c, .int .i64 a.s, .int .i64 a.f, .string a.t] ty)).heap.size = w.heap.size + 1 := by simp
  rw [e] at h2
  refine ⟨((((Below.refl w.heap.size w).alloc (Nat.le_refl _) _).alloc (by simp) _).drew), by simp, ?_⟩
  exact ⟨h3.cell 0, h3.cell 1, h3.cell 2, h3.cell 3, h2.cell 0, h2.cell 1, h2.cell 2, h2.cell 3⟩
theorem Two.open {w w' : World} {a b : Rn} (h : Two w a b w') : Two w a b w' ∧ w'.cell? ⟨w.heap.size, 0, none⟩ = some (.int .i64 a.c) ∧ w'.cell? ⟨w.heap.size, 1, none⟩ = some (.int .i64 a.s) ∧ w'.cell? ⟨w.heap.size, 2, none⟩ = some (.int .i64 a.f) ∧ w'.cell? ⟨w.heap.size, 3, none⟩ = some (.string a.t) ∧
    w'.cell? ⟨w.heap.size + 1, 0, none⟩ = some (.int .i64 b.c) ∧ w'.cell? ⟨w.heap.size + 1, 1, none⟩ = some (.int .i64 b.s) ∧ w'.cell? ⟨w.heap.size + 1, 2, none⟩ = some (.int .i64 b.f) ∧ w'.cell? ⟨w.heap.size + 1, 3, none⟩ = some (.string b.t) := ⟨h, h.2.2⟩
def folB (a b : Rn) : Bool := decide (a.c = b.c ∧ a.s = b.s ∧ a.f + Text.lenOf a.t.data.toList = b.f)
set_option maxRecDepth 100000 in
theorem follows_any (a b : Rn) (w : World) (hz : a.t.size ≤ 10000000000000) (hf : 0 ≤ a.f) (hf2 : a.f ≤ 1000000000000000) :
    Calls Try.prog 69 #[a.val, b.val] w (Bool_ (folB a b) w) := by
  have hL := fun w => Text.len_any a.t w hz
  have hlo : -1 ≤ Text.lenOf a.t.data.toList ∧ Text.lenOf a.t.data.toList ≤ 10000000000000 := by
    unfold Text.lenOf
    cases hp : pts a.t.data.toList with
    | none => simp
    | some l => have := pts_length_le hp; have : a.t.data.toList.length = a.t.size := (by simp); simp only; omega
  unfold folB
  generalize Text.lenOf a.t.data.toList = n at *
  obtain ⟨l1, l2⟩ := hlo
  have HLn := Lib.hid hL
  clear hL
  have hsum : IntKind.i64.wrap (a.f + n) = a.f + n := IntWalk.i64_in _ (by omega)
  have parts : (decide (a.c = b.c ∧ a.s = b.s ∧ a.f + n = b.f) = false ∧ ¬ a.c = b.c) ∨ (decide (a.c = b.c ∧ a.s = b.s ∧ a.f + n = b.f) = false ∧ a.c = b.c ∧ ¬ a.s = b.s) ∨
      (decide (a.c = b.c ∧ a.s = b.s ∧ a.f + n = b.f) = (a.f + n == b.f) ∧ a.c = b.c ∧ a.s = b.s) := by
    by_cases h1 : a.c = b.c <;> by_cases h2 : a.s = b.s <;> by_cases h3 : a.f + n = b.f <;> simp [h1, h2, h3]
  obtain ⟨ac, as_, af, at_⟩ := a
  obtain ⟨bc, bs, bf, bt⟩ := b
  simp only at *
  rcases parts with ⟨e, h1⟩ | ⟨e, h1, h2⟩ | ⟨e, h1, h2⟩
  · rw [e]
    clear e
    go_enter Try.func69, Try.ntmps69
    unfold Rn.val
    go_wp2
    go_quiet (fail)
    go_wp2
    go_ret
    exact bool_of rfl (below_drewN (((Below.refl w.heap.size w).alloc (Nat.le_refl _) _).alloc (by simp) _) _)
  · subst h1
    rw [e]
    clear e
    go_enter Try.func69, Try.ntmps69
    unfold Rn.val
    go_wp2
    go_quiet (fail)
    go_wp2
    go_ret
    exact bool_of rfl (below_drewN (((Below.refl w.heap.size w).alloc (Nat.le_refl _) _).alloc (by simp) _) _)
  · subst h1
    subst h2
    rw [e]
    clear e
    go_enter Try.func69, Try.ntmps69
    unfold Rn.val
    go_wp2
    go_region_held3 (fun w' => Two w ⟨ac, as_, af, at_⟩ ⟨ac, as_, bf, bt⟩ w' ∧ w'.cell? ⟨w.heap.size, 0, none⟩ = some (.int .i64 ac) ∧ w'.cell? ⟨w.heap.size, 1, none⟩ = some (.int .i64 as_) ∧ w'.cell? ⟨w.heap.size, 2, none⟩ = some (.int .i64 af) ∧ w'.cell? ⟨w.heap.size, 3, none⟩ = some (.string at_) ∧
        w'.cell? ⟨w.heap.size + 1, 0, none⟩ = some (.int .i64 ac) ∧ w'.cell? ⟨w.heap.size + 1, 1, none⟩ = some (.int .i64 as_) ∧ w'.cell? ⟨w.heap.size + 1, 2, none⟩ = some (.int .i64 bf) ∧ w'.cell? ⟨w.heap.size + 1, 3, none⟩ = some (.string bt))
      (first | exact Two.open (Two.start _ _ _ _) | exact Two.open (Two.next (And.left (by assumption)) (by assumption)))
      (first | (go_at_call 67; refine (HLn.out _).mono ?_; rintro e w' ⟨rfl, hb'⟩))
    have hS := And.left (‹Two w ⟨ac, as_, af, at_⟩ ⟨ac, as_, bf, bt⟩ _ ∧ _›)
    go_wp2
    go_ret
    exact bool_of rfl hS.1
end Go.Proofs.Ytdhpbfmamkndjaa.Doc
