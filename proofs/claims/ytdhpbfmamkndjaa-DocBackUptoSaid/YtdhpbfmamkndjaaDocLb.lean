/- Contracts: oxbowlaw09.Copied, oxbowref09.Same. -/
import Derived.Test.YtdhpbfmamkndjaaDocO
namespace Go.Proofs.Ytdhpbfmamkndjaa.Doc
open Go.RowKit Ox
set_option linter.unusedVariables false
set_option linter.unusedSimpArgs false
instance : DecidableEq Opn := fun a b => decidable_of_iff (a.k = b.k ∧ a.n = b.n ∧ a.t = b.t) (by cases a; cases b; simp)
theorem info_op : (Try.prog.info? 57).map (fun i => (i.zero, i.size, i.bytes)) = some (some (.agg #[.int .i64 0, .int .i64 0, .string ⟨#[]⟩]), 3, 32) := by kernel_rfl
/-- a delta of the call's own -/
def OwnO (w : World) (B : Nat) (v : Value) (l : List Opn) : Prop := w.ownsRow B 57 3 v l.length (opRows l)
set_option maxRecDepth 100000 in
theorem copied9_any (A : Option Addr) (n c B : Nat) (l : List Opn) (w : World) (hr : Reads w B 3 A n (opRows l)) (hB : B ≤ w.heap.size) (hn : n ≤ 100000000000) :
    Calls Try.prog 39 #[.slice A n c] w fun e w' => ∃ v, e = .returned v ∧ OwnO w' w.heap.size v l ∧ Below w.heap.size w w' := by
  have hl := opRows_len hr
  have HL := Lib.hid hl
  have HR := Lib.hid hr
  have hb0 := Below.refl w.heap.size w
  clear hr hl
  go_enter Try.func39, Try.ntmps39
  go_wp2_with (at_builtin; refine wpList_pushAll (.tmp 4) (.tmp 5) 48 57 3 32 rfl rfl Try.underlying48 info_op rfl (by decide) rfl rfl HR.out (opRows_one l) (World.ownsRow_nil _ w.heap.size _ _) hb0 (Nat.le_refl _) (Nat.le_refl _) (Nat.le_refl _) (by omega) (by omega) ?_)
  intro v1 w1 ho1 hb1 hs1 _
  go_wp2
  go_ret
  refine ⟨v1, rfl, ?_, hb1⟩
  unfold OwnO
  rw [HL.out]
  simpa using ho1

/-! ### Same -/
structure SameRel9 (l1 l2 : List Opn) (w : World) (k : Nat) (wr : World) : Prop where
  le : k ≤ l1.length
  below : Below w.heap.size w wr
  eqn : l1.take k = l2.take k
theorem same9_ne {l1 l2 : List Opn} {k : Nat} {x y : Opn} (hx : l1[k]? = some x) (hy : l2[k]? = some y) (hn : x ≠ y) : false = decide (l1 = l2) := by
  symm; rw [decide_eq_false_iff_not]; rintro rfl; rw [hx] at hy; exact hn (by simpa using hy)

theorem SameRel9.step {l1 l2 : List Opn} {w wr w' : World} {k : Nat} {x y : Opn} (h : SameRel9 l1 l2 w k wr) (hx : l1[k]? = some x) (hy : l2[k]? = some y) (hn : x = y) (hb : Below w.heap.size w w') : SameRel9 l1 l2 w (k + 1) w' := by
  subst hn
  exact ⟨(List.getElem?_eq_some_iff.1 hx).1, hb, by rw [take_snoc hx, take_snoc hy, h.eqn]⟩
theorem SameRel9.done {l1 l2 : List Opn} {w wr : World} {k : Nat} (h : SameRel9 l1 l2 w k wr) (hl : l1.length = l2.length) (hk : l1.length ≤ k) : true = decide (l1 = l2) := by
  have := h.eqn
  rw [List.take_of_length_le hk, List.take_of_length_le (by omega)] at this
  simp [this]
theorem opn_eq {x y : Opn} (h1 : x.k = y.k) (h2 : x.n = y.n) (h4 : x.t.toList = y.t.toList) : x = y := by
  have := bytes_eq h4
  cases x; cases y; simp_all
theorem opn_ne {x y : Opn} (h : ¬ x.k = y.k ∨ ¬ x.n = y.n ∨ ¬ x.t.toList = y.t.toList) : x ≠ y := by rintro rfl; simp at h
set_option maxRecDepth 100000 in
theorem same9_any (A1 A2 : Option Addr) (n1 c1 B1 n2 c2 B2 : Nat) (l1 l2 : List Opn) (w : World) (h1 : Reads w B1 3 A1 n1 (opRows l1)) (h2 : Reads w B2 3 A2 n2 (opRows l2)) (hB1 : B1 ≤ w.heap.size) (hB2 : B2 ≤ w.heap.size) (hn : n1 ≤ 10000000000000) (hn2 : n2 ≤ 10000000000000) :
    Calls Try.prog 42 #[.slice A1 n1 c1, .slice A2 n2 c2] w (Bool_ (decide (l1 = l2)) w) := by
  have hl1 := Lib.hid (opRows_len h1)
  have hl2 := Lib.hid (opRows_len h2)
  by_cases hl : n1 = n2
  · subst hl
    have hl : l1.length = l2.length := by rw [hl1.out, hl2.out]
    have HL := Lib.hid hl
    clear hl
    go_enter Try.func42, Try.ntmps42
    go_wp2
    go_loopw [5] (fun i wr => ∃ k : Nat, i = .int .i64 k ∧ SameRel9 l1 l2 w k wr) (fun i _ => n1 - (intOf i).toNat)
    case atStart => exact ⟨0, rfl, Nat.zero_le _, Below.refl _ _, rfl⟩
    case round =>
      obtain ⟨k, rfl, hr⟩ := hrel
      have hk := hr.le
      rw [hl1.out] at hk
      by_cases hlt : k < n1
      · obtain ⟨ad1, p, x, rfl, hp, hbk1, hx, p1, p2, p3⟩ := op_at ((h1.more hB1).below hr.below) hlt
        obtain ⟨ad2, q, y, rfl, hq, hbk2, hy, q1, q2, q3⟩ := op_at ((h2.more hB2).below hr.below) hlt
        have hr1 := Lib.hid h1
        have hr2 := Lib.hid h2
        clear h1 h2
        go_wp2
        refine wp_region_drew (by kernel_rfl) (by kernel_rfl) ?_
        go_wp2
        all_goals first
          | (have hxy : x = y := opn_eq (by assumption) (by assumption) (by assumption)
             have hst := hr.step hx.out hy.out hxy hr.below.drew
             refine FinQ.intro (by kernel_rfl) ?_
             go_wp2
             go_roundw
             case rel => exact ⟨k + 1, by go_num, hst⟩
             case measure => simp [intOf]; omega)
          | (have hne := same9_ne hx.out hy.out (opn_ne (by first | exact .inl (by assumption) | exact .inr (.inl (by assumption)) | exact .inr (.inr (by assumption))))
             refine FinQ.intro (by kernel_rfl) ?_
             go_wp2
             go_ret
             exact bool_of hne hr.below.drew)
      · go_wp2
        go_ret
        exact bool_of (hr.done HL.out (by rw [hl1.out]; omega)) hr.below
  · have hne : false = decide (l1 = l2) := by
      symm; rw [decide_eq_false_iff_not]; rintro rfl; exact hl (by rw [← hl1.out, ← hl2.out])
    clear hl1 hl2
    go_enter Try.func42, Try.ntmps42
    go_wp2
    go_ret
    exact bool_of hne (Below.refl _ _)
end Go.Proofs.Ytdhpbfmamkndjaa.Doc
