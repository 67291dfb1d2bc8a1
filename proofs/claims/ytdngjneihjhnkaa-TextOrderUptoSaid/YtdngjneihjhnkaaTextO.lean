/- The walk of the law TextOrder. -/
import Derived.Test.YtdngjneihjhnkaaTextK
import Derived.Test.YtdngjneihjhnkaaBaseB
import Derived.Test.YtdngjneihjhnkaaTxD
namespace Go.Proofs.Ytdngjneihjhnkaa.Text
open Go.RowKit Ox
set_option linter.unusedVariables false
set_option linter.unusedSimpArgs false

structure OrdRel (l m : List Int) (w w2 : World) (k : Nat) (z : Int) (wr : World) : Prop where
  l1 : k ≤ l.length
  l2 : k ≤ m.length
  below : Below w.heap.size w wr
  keep : Below w2.heap.size w2 wr
  eqn : (z = 0 ∧ cmpInts l m = cmpInts (l.drop k) (m.drop k)) ∨ (z = -1 ∧ cmpInts l m = -1) ∨ (z = 1 ∧ cmpInts l m = 1)
variable {l m : List Int} {w w2 wr w' : World} {k : Nat} {x y : Int}
theorem drop_get {l : List Int} {k : Nat} {x : Int} (h : l[k]? = some x) : l.drop k = x :: l.drop (k + 1) := by
  obtain ⟨h1, rfl⟩ := List.getElem?_eq_some_iff.1 h
  exact List.drop_eq_getElem_cons h1
theorem get_lt {l : List Int} {k : Nat} {x : Int} (h : l[k]? = some x) : k + 1 ≤ l.length := (List.getElem?_eq_some_iff.1 h).1
theorem OrdRel.lt (h : OrdRel l m w w2 k 0 wr) (hx : l[k]? = some x) (hy : m[k]? = some y) (hl : x < y) (hb : Below w.heap.size w w') (hb2 : Below w2.heap.size w2 w') : OrdRel l m w w2 (k + 1) (-1) w' := by
  refine ⟨get_lt hx, get_lt hy, hb, hb2, .inr (.inl ⟨rfl, ?_⟩)⟩
  rcases h.eqn with ⟨_, h⟩ | ⟨h, _⟩ | ⟨h, _⟩
  · rw [h, drop_get hx, drop_get hy, cmpInts, if_pos hl]
  · omega
  · omega
theorem OrdRel.gt (h : OrdRel l m w w2 k 0 wr) (hx : l[k]? = some x) (hy : m[k]? = some y) (hl : y < x) (hb : Below w.heap.size w w') (hb2 : Below w2.heap.size w2 w') : OrdRel l m w w2 (k + 1) 1 w' := by
  refine ⟨get_lt hx, get_lt hy, hb, hb2, .inr (.inr ⟨rfl, ?_⟩)⟩
  rcases h.eqn with ⟨_, h⟩ | ⟨h, _⟩ | ⟨h, _⟩
  · rw [h, drop_get hx, drop_get hy, cmpInts, if_neg (by omega), if_pos hl]
  · omega
  · omega
theorem OrdRel.eq (h : OrdRel l m w w2 k 0 wr) (hx : l[k]? = some x) (hy : m[k]? = some x) (hb : Below w.heap.size w w') (hb2 : Below w2.heap.size w2 w') : OrdRel l m w w2 (k + 1) 0 w' := by
  refine ⟨get_lt hx, get_lt hy, hb, hb2, .inl ⟨rfl, ?_⟩⟩
  rcases h.eqn with ⟨_, h⟩ | ⟨h, _⟩ | ⟨h, _⟩
  · rw [h, drop_get hx, drop_get hy, cmpInts, if_neg (by omega), if_neg (by omega)]
  · omega
  · omega
theorem OrdRel.end_ (h : OrdRel l m w w2 k 0 wr) : cmpInts l m = cmpInts (l.drop k) (m.drop k) := by
  rcases h.eqn with ⟨_, h⟩ | ⟨h, _⟩ | ⟨h, _⟩
  · exact h
  · omega
  · omega
theorem drop_none {l : List Int} {k : Nat} (h : l.length ≤ k) : l.drop k = [] := List.drop_eq_nil_of_le h
theorem drop_some {l : List Int} {k : Nat} (h : k < l.length) : ∃ x t, l.drop k = x :: t := ⟨_, _, List.drop_eq_getElem_cons h⟩
theorem OrdRel.end_lt (h : OrdRel l m w w2 k 0 wr) (h1 : l.length ≤ k) (h2 : k < m.length) : cmpInts l m = -1 := by
  obtain ⟨x, t, e⟩ := drop_some h2
  rw [h.end_, drop_none h1, e]; rfl
theorem OrdRel.end_gt (h : OrdRel l m w w2 k 0 wr) (h1 : k < l.length) (h2 : m.length ≤ k) : cmpInts l m = 1 := by
  obtain ⟨x, t, e⟩ := drop_some h1
  rw [h.end_, drop_none h2, e]; rfl
theorem OrdRel.end_eq (h : OrdRel l m w w2 k 0 wr) (h1 : l.length ≤ k) (h2 : m.length ≤ k) : cmpInts l m = 0 := by
  rw [h.end_, drop_none h1, drop_none h2]; rfl

set_option maxRecDepth 100000 in
theorem order_none (a b : ByteArray) (w : World) (ha : a.size ≤ 10000000000000) (hb : b.size ≤ 10000000000000) (h : pts a.data.toList = none ∨ pts b.data.toList = none) : Calls Try.prog 8 #[.string a, .string b] w (Bool_ true w) := by
  have hA := fun w => points_any a w ha
  have hB := fun w => points_any b w hb
  cases ha2 : pts a.data.toList with
  | none =>
    rw [ha2] at hA
    clear ha2 h
    cases hb2 : pts b.data.toList with
    | none =>
      rw [hb2] at hB
      have HA := Lib.hid hA
      have HB := Lib.hid hB
      clear hA hB hb2
      go_enter Try.func8, Try.ntmps8
      go_wp2_with (go_at_call 9; refine (HA.out _).mono ?_; rintro e w1 ⟨hb1, rfl⟩; go_wp2_with (go_at_call 9; refine (HB.out _).mono ?_; rintro e w2 ⟨hb2, rfl⟩; go_wp2_with (go_at_call 14; refine (live_any _).mono ?_; rintro e w3 ⟨rfl, hb3⟩)))
      go_ret
      exact bool_of rfl (below_next (below_next hb1 hb2 hb1.size) hb3 (Nat.le_trans hb1.size hb2.size))
    | some m =>
      rw [hb2] at hB
      have HA := Lib.hid hA
      have HB := Lib.hid hB
      clear hA hB hb2
      go_enter Try.func8, Try.ntmps8
      go_wp2_with (go_at_call 9; refine (HA.out _).mono ?_; rintro e w1 ⟨hb1, rfl⟩; go_wp2_with (go_at_call 9; refine (HB.out _).mono ?_; rintro e w2 ⟨hb2, v2, rfl, ho2⟩; go_wp2_with (go_at_call 14; refine (live_any _).mono ?_; rintro e w3 ⟨rfl, hb3⟩)))
      go_ret
      exact bool_of rfl (below_next (below_next hb1 hb2 hb1.size) hb3 (Nat.le_trans hb1.size hb2.size))
  | some l =>
    have hb2 : pts b.data.toList = none := by
      rcases h with h | h
      · rw [ha2] at h; cases h
      · exact h
    rw [ha2] at hA
    rw [hb2] at hB
    have HA := Lib.hid hA
    have HB := Lib.hid hB
    clear hA hB hb2 ha2 h
    go_enter Try.func8, Try.ntmps8
    go_wp2_with (go_at_call 9; refine (HA.out _).mono ?_; rintro e w1 ⟨hb1, v1, rfl, ho1⟩; go_wp2_with (go_at_call 9; refine (HB.out _).mono ?_; rintro e w2 ⟨hb2, rfl⟩; go_wp2_with (go_at_call 14; refine (live_any _).mono ?_; rintro e w3 ⟨rfl, hb3⟩)))
    go_ret
    exact bool_of rfl (below_next (below_next hb1 hb2 hb1.size) hb3 (Nat.le_trans hb1.size hb2.size))

set_option maxRecDepth 100000 in
theorem order_some (a b : ByteArray) (l m : List Int) (w : World) (hl : l.length ≤ 10000000000000) (hm : m.length ≤ 10000000000000)
    (hA : ∀ w, Calls Try.prog 9 #[.string a] w (Pts (some l) w.heap.size w)) (hB : ∀ w, Calls Try.prog 9 #[.string b] w (Pts (some m) w.heap.size w))
    (hC : ∀ w, Calls Try.prog 19 #[.string a, .string b] w fun e w' => e = .returned (.int .i64 (cmpInts l m)) ∧ w = w') : Calls Try.prog 8 #[.string a, .string b] w (Bool_ true w) := by
  have HA := Lib.hid hA
  have HB := Lib.hid hB
  have HC := Lib.hid hC
  clear hA hB hC
  go_enter Try.func8, Try.ntmps8
  go_wp2_with (go_at_call 9; refine (HA.out _).mono ?_; rintro e w1 ⟨hb1, v1, rfl, ho1⟩; obtain ⟨A1, c1, rfl, hnc1, hcm1, hrd1, _⟩ := own_slice ho1; have hs1 := hb1.size; have H1 := Lib.hid hrd1; clear ho1 hrd1; go_wp2_with (go_at_call 9; refine (HB.out _).mono ?_; rintro e w2 ⟨hb2, v2, rfl, ho2⟩; obtain ⟨A2, c2, rfl, hnc2, hcm2, hrd2, _⟩ := own_slice ho2; have hs2 := hb2.size; have H2 := Lib.hid hrd2; clear ho2 hrd2; go_wp2))
  have h1 : OrdRel l m w w2 0 0 w2 := ⟨Nat.zero_le _, Nat.zero_le _, below_next hb1 hb2 hs1, Below.refl _ _, .inl ⟨rfl, rfl⟩⟩
  have H := Lib.hid h1
  have H1' := Lib.hid ((H1.out.below hb2).more hs2)
  clear h1
  go_loopw [9, 10] (fun u i wr => ∃ (k : Nat) (z : Int), u = .int .i64 z ∧ i = .int .i64 k ∧ OrdRel l m w w2 k z wr) (fun _ i _ => l.length - (intOf i).toNat)
  case atStart => exact ⟨0, 0, rfl, rfl, H.out⟩
  case round =>
    obtain ⟨k, z, rfl, rfl, hr⟩ := hrel
    have hk1 := hr.l1
    have hk2 := hr.l2
    have hbr := hr.below.size
    have hcase : z = 0 ∨ z = -1 ∨ z = 1 := by rcases hr.eqn with ⟨h, _⟩ | ⟨h, _⟩ | ⟨h, _⟩ <;> omega
    rcases hcase with rfl | hz
    · by_cases hlt1 : k < l.length
      · by_cases hlt2 : k < m.length
        · obtain ⟨ad1, x, rfl, hbk1, hx, hc1⟩ := int_at (H1'.out.below hr.keep) hlt1
          obtain ⟨ad2, y, rfl, hbk2, hy, hc2⟩ := int_at (H2.out.below hr.keep) hlt2
          have hd1 : wr.drew.drew.cell? (ad1.add k) = some (.int .i64 x) := hc1
          have hd2 : wr.drew.drew.cell? (ad2.add k) = some (.int .i64 y) := hc2
          rcases Int.lt_trichotomy x y with h | h | h
          · have hst := hr.lt hx.out hy.out h hr.below.drew hr.keep.drew
            have hst2 := hr.lt hx.out hy.out h hr.below.drew.drew hr.keep.drew.drew
            go_wp2
            refine wp_region_drew (by kernel_rfl) (by kernel_rfl) ?_
            go_wp2
            refine FinQ.intro (by kernel_rfl) ?_
            go_wp2
            refine wp_region_drew (by kernel_rfl) (by kernel_rfl) ?_
            go_wp2
            refine FinQ.intro (by kernel_rfl) ?_
            go_wp2
            go_roundw
            case rel => exact ⟨k + 1, -1, rfl, by go_num, hst2⟩
            case measure => simp [intOf]; omega
          · subst h
            have hst2 := hr.eq hx.out hy.out hr.below.drew.drew hr.keep.drew.drew
            go_wp2
            refine wp_region_drew (by kernel_rfl) (by kernel_rfl) ?_
            go_wp2
            refine FinQ.intro (by kernel_rfl) ?_
            go_wp2
            refine wp_region_drew (by kernel_rfl) (by kernel_rfl) ?_
            go_wp2
            refine FinQ.intro (by kernel_rfl) ?_
            go_wp2
            go_roundw
            case rel => exact ⟨k + 1, 0, rfl, by go_num, hst2⟩
            case measure => simp [intOf]; omega
          · have hst2 := hr.gt hx.out hy.out h hr.below.drew.drew hr.keep.drew.drew
            go_wp2
            refine wp_region_drew (by kernel_rfl) (by kernel_rfl) ?_
            go_wp2
            refine FinQ.intro (by kernel_rfl) ?_
            go_wp2
            refine wp_region_drew (by kernel_rfl) (by kernel_rfl) ?_
            go_wp2
            refine FinQ.intro (by kernel_rfl) ?_
            go_wp2
            go_roundw
            case rel => exact ⟨k + 1, 1, rfl, by go_num, hst2⟩
            case measure => simp [intOf]; omega
        · have hz := hr.end_gt hlt1 (by omega)
          have hk3 : k = m.length := by omega
          have HC' := HC.out
          rw [hz] at HC'
          have HD := Lib.hid HC'
          clear HC'
          go_wp2_with (first
            | (go_at_call 19; refine (HD.out _).mono ?_; rintro e w3 ⟨rfl, rfl⟩)
            | (go_at_call 14; refine (live_any _).mono ?_; rintro e w4 ⟨rfl, hb4⟩))
          go_ret
          exact bool_of rfl (below_next hr.below hb4 hbr)
      · have hk3 : k = l.length := by omega
        by_cases hlt2 : k < m.length
        · have hz := hr.end_lt (by omega) hlt2
          have HC' := HC.out
          rw [hz] at HC'
          have HD := Lib.hid HC'
          clear HC'
          go_wp2_with (first
            | (go_at_call 19; refine (HD.out _).mono ?_; rintro e w3 ⟨rfl, rfl⟩)
            | (go_at_call 14; refine (live_any _).mono ?_; rintro e w4 ⟨rfl, hb4⟩))
          go_ret
          exact bool_of rfl (below_next hr.below hb4 hbr)
        · have hk4 : k = m.length := by omega
          have hz := hr.end_eq (by omega) (by omega)
          have HC' := HC.out
          rw [hz] at HC'
          have HD := Lib.hid HC'
          clear HC'
          go_wp2_with (first
            | (go_at_call 19; refine (HD.out _).mono ?_; rintro e w3 ⟨rfl, rfl⟩)
            | (go_at_call 14; refine (live_any _).mono ?_; rintro e w4 ⟨rfl, hb4⟩))
          go_ret
          exact bool_of rfl (below_next hr.below hb4 hbr)
    · have hz2 : cmpInts l m = z := by rcases hr.eqn with ⟨h, _⟩ | ⟨h, h2⟩ | ⟨h, h2⟩ <;> omega
      have HC' := HC.out
      rw [hz2] at HC'
      have HD := Lib.hid HC'
      clear HC' hz2
      have hz0 : ¬ z = 0 := by omega
      by_cases hlt1 : k < l.length <;> by_cases hlt2 : k < m.length
      all_goals
        rcases hz with rfl | rfl
        all_goals
          go_wp2_with (first
            | (go_at_call 19; refine (HD.out _).mono ?_; rintro e w3 ⟨rfl, rfl⟩)
            | (go_at_call 14; refine (live_any _).mono ?_; rintro e w4 ⟨rfl, hb4⟩))
          go_ret
          exact bool_of rfl (below_next hr.below hb4 hbr)
theorem order_law (a b : ByteArray) (w : World) (ha : a.size ≤ 10000000000000) (hb : b.size ≤ 10000000000000) : Calls Try.prog 8 #[.string a, .string b] w (Bool_ true w) := by
  cases ha2 : pts a.data.toList with
  | none => exact order_none a b w ha hb (.inl ha2)
  | some l =>
    cases hb2 : pts b.data.toList with
    | none => exact order_none a b w ha hb (.inr hb2)
    | some m =>
      have h1 := pts_length_le ha2
      have h2 := pts_length_le hb2
      have h3 : a.data.toList.length = a.size := by simp
      have h4 : b.data.toList.length = b.size := by simp
      have hc := cmp_txt (pts_valid ha2) (pts_valid hb2)
      rw [pts_back ha2, pts_back hb2] at hc
      refine order_some a b l m w (by omega) (by omega) (fun w => ?_) (fun w => ?_) (fun w => ?_)
      · have h := points_any a w ha
        rw [ha2] at h
        exact h
      · have h := points_any b w hb
        rw [hb2] at h
        exact h
      · have h := compare_any a b w
        rw [hc] at h
        exact h
end Go.Proofs.Ytdngjneihjhnkaa.Text
