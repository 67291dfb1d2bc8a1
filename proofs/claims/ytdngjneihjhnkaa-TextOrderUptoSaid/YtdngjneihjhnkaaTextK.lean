/- Contracts of oxbowlaw01: same, live. -/
import Derived.Test.YtdngjneihjhnkaaTextJ
namespace Go.Proofs.Ytdngjneihjhnkaa.Text
open Go.RowKit Ox
set_option linter.unusedVariables false
set_option linter.unusedSimpArgs false

theorem ints_new {w : World} {e : TypeId} {l : List Int} {cs : List Value} {n : Nat} (h : ints l = cs) (hn : l.length = n) : Reads (w.alloc (.cells cs.toArray e)) (w.heap.size + 1) 1 (some ⟨w.heap.size, 0, none⟩) n (ints l) := by
  subst h; subst hn
  refine ⟨by rw [ints_length]; omega, fun _ => ⟨_, rfl, by simp, fun j u hu => ?_⟩⟩
  rw [Addr.add_lit, Nat.zero_add, cell_of_row _ _ _ _ _ _ (heap_alloc_new w _)]
  simpa using hu
theorem alloc_le {w : World} {o : Obj} : w.heap.size + 1 ≤ (w.alloc o).heap.size := by simp
theorem step_alloc {w w' : World} {o : Obj} (h : Below (w.alloc o).heap.size (w.alloc o) w') : Below w.heap.size w w' := ((Below.refl _ w).alloc (Nat.le_refl _) o).trans (h.mono (Nat.le_trans (Nat.le_succ _) alloc_le))
def Bool_ (x : Bool) (w : World) (e : Ending) (w' : World) : Prop := e = .returned (.bool x) ∧ Below w.heap.size w w'
theorem bool_of {x y : Bool} {w w' : World} (h : x = y) (hb : Below w.heap.size w w') : Bool_ y w (.returned (.bool x)) w' := ⟨by rw [h], hb⟩
structure SameRel (l1 l2 : List Int) (w : World) (k : Nat) (wr : World) : Prop where
  le : k ≤ l1.length
  below : Below w.heap.size w wr
  eqn : l1.take k = l2.take k
variable {l1 l2 : List Int} {w wr : World} {k : Nat}
theorem SameRel.ne (h : SameRel l1 l2 w k wr) {x y : Int} (hx : l1[k]? = some x) (hy : l2[k]? = some y) (hn : x ≠ y) : false = (l1 == l2) := by
  symm; rw [beq_eq_false_iff_ne]; rintro rfl; rw [hx] at hy; exact hn (by simpa using hy)
theorem SameRel.step (h : SameRel l1 l2 w k wr) {x y : Int} (hx : l1[k]? = some x) (hy : l2[k]? = some y) (hn : x = y) {w' : World} (hb : Below w.heap.size w w') : SameRel l1 l2 w (k + 1) w' := by
  subst hn
  refine ⟨?_, hb, by rw [take_snoc hx, take_snoc hy, h.eqn]⟩
  obtain ⟨h1, _⟩ := List.getElem?_eq_some_iff.1 hx
  omega
theorem SameRel.done (h : SameRel l1 l2 w k wr) (hl : l1.length = l2.length) (hk : l1.length ≤ k) : true = (l1 == l2) := by
  have := h.eqn
  rw [List.take_of_length_le hk, List.take_of_length_le (by omega)] at this
  simp [this]

set_option maxRecDepth 100000 in
theorem same_any (A1 A2 : Option Addr) (n1 c1 B1 n2 c2 B2 : Nat) (l1 l2 : List Int) (w : World) (h1 : Reads w B1 1 A1 n1 (ints l1)) (h2 : Reads w B2 1 A2 n2 (ints l2)) (hB1 : B1 ≤ w.heap.size) (hB2 : B2 ≤ w.heap.size) (hn : n1 ≤ 10000000000000) (hn2 : n2 ≤ 10000000000000) :
    Calls Try.prog 11 #[.slice A1 n1 c1, .slice A2 n2 c2] w (Bool_ (l1 == l2) w) := by
  have hl1 := Lib.hid (ints_len h1)
  have hl2 := Lib.hid (ints_len h2)
  by_cases hl : n1 = n2
  · subst hl
    have hl : l1.length = l2.length := by rw [hl1.out, hl2.out]
    have HL := Lib.hid hl
    clear hl
    go_enter Try.func11, Try.ntmps11
    go_wp2
    go_loopw [5] (fun i wr => ∃ k : Nat, i = .int .i64 k ∧ SameRel l1 l2 w k wr) (fun i _ => n1 - (intOf i).toNat)
    case atStart => exact ⟨0, rfl, Nat.zero_le _, Below.refl _ _, rfl⟩
    case round =>
      obtain ⟨k, rfl, hr⟩ := hrel
      have hk := hr.le
      rw [hl1.out] at hk
      by_cases hlt : k < n1
      · obtain ⟨ad1, x, rfl, hbk1, hx, hc1⟩ := int_at ((h1.more hB1).below hr.below) hlt
        obtain ⟨ad2, y, rfl, hbk2, hy, hc2⟩ := int_at ((h2.more hB2).below hr.below) hlt
        have hr1 := Lib.hid h1
        have hr2 := Lib.hid h2
        clear h1 h2
        by_cases hxy : x = y
        · have hst := hr.step hx.out hy.out hxy hr.below.drew
          subst hxy
          go_wp2
          refine wp_region_text (by kernel_rfl) (by kernel_rfl) ?_
          go_wp2
          refine FinQ.intro (by kernel_rfl) ?_
          go_wp2
          go_roundw
          case rel => exact ⟨k + 1, by go_num, hst⟩
          case measure => simp [intOf]; omega
        · go_wp2
          refine wp_region_text (by kernel_rfl) (by kernel_rfl) ?_
          go_wp2
          refine FinQ.intro (by kernel_rfl) ?_
          go_wp2
          go_ret
          exact bool_of (hr.ne hx.out hy.out hxy) hr.below.drew
      · go_wp2
        go_ret
        exact bool_of (hr.done HL.out (by rw [hl1.out]; omega)) hr.below
  · have hne : false = (l1 == l2) := by
      symm; rw [beq_eq_false_iff_ne]; rintro rfl; exact hl (by rw [← hl1.out, ← hl2.out])
    clear hl1 hl2
    go_enter Try.func11, Try.ntmps11
    go_wp2
    go_ret
    exact bool_of hne (Below.refl _ _)

theorem live_pts : pts (ByteArray.mk #[97, 195, 169, 226, 130, 172]).data.toList = some [97, 233, 8364] := by rfl
theorem live_txt : textOf [128512] = some [240, 159, 152, 128] := by rfl
theorem live_cut : cutOf (ByteArray.mk #[97, 195, 169, 98]).data.toList 1 2 = ([195, 169], 0) := by rfl
theorem live_len : lenOf (ByteArray.mk #[255]).data.toList = -1 := by rfl
set_option maxRecDepth 100000 in
theorem live_any (w : World) : Calls Try.prog 14 #[] w (Bool_ true w) := by
  go_enter Try.func14, Try.ntmps14
  go_wp2_with (first
    | (go_at_call 9; refine (points_any _ _ (by decide)).mono ?_; rw [live_pts]; rintro e w1 ⟨hb1, v1, rfl, ho⟩; obtain ⟨A1, c1, rfl, hnc1, hcm1, hrd1, _⟩ := own_slice ho; have HR := Lib.hid hrd1; clear hrd1 ho)
    | (go_at_call 15; refine (text_any _ _ _ _ _ _ (ints_new (l := [128512]) rfl rfl) alloc_le (by decide)).mono ?_; rw [live_txt]; rintro e w2 ⟨hb2, rfl⟩)
    | (go_at_call 17; refine (cut_any _ _ _ _ (by decide)).mono ?_; rw [live_cut]; rintro e w3 ⟨rfl, hb3⟩)
    | (go_at_call 11; refine (same_any _ _ _ _ w1.heap.size _ _ _ [97, 233, 8364] [97, 233, 8364] _ ?_ (ints_new rfl rfl) ?_ alloc_le (by decide) (by decide)).mono ?_; rotate_left 2; rintro e w4 ⟨rfl, hb4⟩)
    | (go_at_call 12; refine (len_any _ _ (by decide)).mono ?_; rw [live_len]; rintro e w5 ⟨rfl, hb5⟩)
    | (go_at_call 19; refine (compare_any _ _ _).mono ?_; rintro e w6 ⟨rfl, rfl⟩))
  · go_ret
    have h2 := step_alloc hb2
    have h4 := step_alloc hb4
    exact bool_of rfl (below_next (below_next (below_next (below_next hb1 h2 hb1.size) hb3 (Nat.le_trans hb1.size h2.size)) h4 (Nat.le_trans hb1.size (Nat.le_trans h2.size hb3.size))) hb5 (Nat.le_trans hb1.size (Nat.le_trans h2.size (Nat.le_trans hb3.size h4.size))))
  · have h2 := step_alloc hb2
    exact ((HR.out.below h2).below (hb3.mono h2.size)).alloc (Nat.le_trans h2.size hb3.size) _
  · exact Nat.le_trans (step_alloc hb2).size (Nat.le_trans hb3.size (Nat.le_trans (Nat.le_succ _) alloc_le))
end Go.Proofs.Ytdngjneihjhnkaa.Text
