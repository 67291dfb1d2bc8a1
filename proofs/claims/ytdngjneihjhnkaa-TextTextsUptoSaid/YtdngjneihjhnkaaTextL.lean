/- The walks of the laws TextCuts, TextCompares, TextTexts. -/
import Derived.Test.YtdngjneihjhnkaaTextK
import Derived.Test.YtdngjneihjhnkaaBaseB
namespace Go.Proofs.Ytdngjneihjhnkaa.Text
open Go.RowKit Ox
set_option linter.unusedVariables false
set_option linter.unusedSimpArgs false

set_option maxRecDepth 100000 in
theorem cuts_law (s : ByteArray) (a b : Int) (w : World) (hs : s.size ≤ 10000000000000) : Calls Try.prog 5 #[.string s, .int .i64 a, .int .i64 b] w (Bool_ true w) := by
  go_enter Try.func5, Try.ntmps5
  go_wp2_with (first
    | (go_at_call 17; refine (cut_any _ _ _ _ hs).mono ?_; rintro e w1 ⟨rfl, hb1⟩)
    | (go_at_call 18; refine (rcut_any _ _ _ _ hs).mono ?_; rintro e w2 ⟨rfl, hb2⟩)
    | (go_at_call 14; refine (live_any _).mono ?_; rintro e w3 ⟨rfl, hb3⟩))
  all_goals go_ret
  all_goals exact bool_of rfl (below_next (below_next hb1 hb2 hb1.size) hb3 (Nat.le_trans hb1.size hb2.size))

theorem compare_swap : ∀ a b : List UInt8, Lib.compareBytes b a = - Lib.compareBytes a b
  | [], [] => rfl
  | [], _ :: _ => rfl
  | _ :: _, [] => rfl
  | x :: a, y :: b => by
    have ih := compare_swap a b
    unfold Lib.compareBytes
    rcases Nat.lt_trichotomy x.toNat y.toNat with h | h | h
    · rw [if_neg (show ¬ y < x by rw [UInt8.lt_iff_toNat_lt]; omega), if_pos (show x < y by rw [UInt8.lt_iff_toNat_lt]; omega), if_pos (show x < y by rw [UInt8.lt_iff_toNat_lt]; omega)]; rfl
    · rw [if_neg (show ¬ y < x by rw [UInt8.lt_iff_toNat_lt]; omega), if_neg (show ¬ x < y by rw [UInt8.lt_iff_toNat_lt]; omega), if_neg (show ¬ x < y by rw [UInt8.lt_iff_toNat_lt]; omega), if_neg (show ¬ y < x by rw [UInt8.lt_iff_toNat_lt]; omega)]; exact ih
    · rw [if_pos (show y < x by rw [UInt8.lt_iff_toNat_lt]; omega), if_neg (show ¬ x < y by rw [UInt8.lt_iff_toNat_lt]; omega), if_pos (show y < x by rw [UInt8.lt_iff_toNat_lt]; omega)]
theorem compare_bd : ∀ a b : List UInt8, -1 ≤ Lib.compareBytes a b ∧ Lib.compareBytes a b ≤ 1
  | [], [] => by decide
  | [], _ :: _ => by unfold Lib.compareBytes; decide
  | _ :: _, [] => by unfold Lib.compareBytes; decide
  | x :: a, y :: b => by
    unfold Lib.compareBytes
    have := compare_bd a b
    repeat' split
    all_goals omega
set_option maxRecDepth 100000 in
theorem compares_law (a b : ByteArray) (w : World) (ha : a.size ≤ 9223372036854775807) (hb : b.size ≤ 9223372036854775807) : Calls Try.prog 6 #[.string a, .string b] w (Bool_ true w) := by
  have hsw := compare_swap a.data.toList b.data.toList
  have hbd := compare_bd a.data.toList b.data.toList
  have h1 : ∀ w, _ := fun w => compare_any a b w
  have h2 : ∀ w, _ := fun w => compare_any b a w
  have h3 : ∀ w, _ := fun w => rcompare_any a b w ha hb
  rw [hsw] at h2
  generalize Lib.compareBytes a.data.toList b.data.toList = x at *
  clear hsw
  go_enter Try.func6, Try.ntmps6
  go_wp2_with (first
    | (go_at_call 19; refine (h1 _).mono ?_; rintro e w1 ⟨rfl, rfl⟩)
    | (go_at_call 19; refine (h2 _).mono ?_; rintro e w1 ⟨rfl, rfl⟩)
    | (go_at_call 20; refine (h3 _).mono ?_; rintro e w2 ⟨rfl, hb2⟩)
    | (go_at_call 14; refine (live_any _).mono ?_; rintro e w3 ⟨rfl, hb3⟩))
  all_goals go_ret
  all_goals exact bool_of rfl (below_next hb2 hb3 hb2.size)

/-- what the two functions Text say of a list -/
theorem texts_same (l : List Int) : (∃ t, textOf l = some t) ∨ textOf l = none := by
  cases h : textOf l with
  | none => exact .inr rfl
  | some t => exact .inl ⟨t, rfl⟩
set_option maxRecDepth 100000 in
theorem texts_law (A : Option Addr) (n c B : Nat) (l : List Int) (w : World) (hr : Reads w B 1 A n (ints l)) (hB : B ≤ w.heap.size) (hn : n ≤ 10000000000000) : Calls Try.prog 4 #[.slice A n c] w (Bool_ true w) := by
  have HR := Lib.hid hr
  have hb0 := Below.refl w.heap.size w
  clear hr
  rcases texts_same l with ⟨t, ht⟩ | ht
  all_goals
    go_enter Try.func4, Try.ntmps4
    go_wp2_with (at_builtin; refine wpList_pushAll (.tmp 8) (.tmp 9) 22 3 1 8 rfl rfl Try.underlying22 info_int rfl (by decide) rfl rfl HR.out (ints_one l) (World.ownsRow_nil _ w.heap.size _ _) hb0 (Nat.le_refl _) (Nat.le_refl _) (Nat.le_refl _) (by omega) (by omega) ?_)
    intro v1 w1 ho1 hb1 hs1 _
    have ho1' : w1.ownsRow w.heap.size 3 1 v1 n (ints l) := by simpa using ho1
    clear ho1
    obtain ⟨A1, c1, rfl, hnc1, hcm1, hrd1, _⟩ := own_slice ho1'
    have HR1 := Lib.hid hrd1
    have HR2 := Lib.hid ((HR.out.more hB).below hb1)
    clear hrd1 ho1'
    go_wp2_with (first
      | (go_at_call 15; refine (text_any _ _ _ _ _ _ HR1.out (Nat.le_refl _) hn).mono ?_; rw [ht]; rintro e w2 ⟨hb2, rfl⟩; have hs2 := hb2.size)
      | (go_at_call 16; refine (rtext_any _ _ _ _ _ _ (HR2.out.below (hb2.mono hs1)) (Nat.le_trans hs1 hs2) hn).mono ?_; rw [ht]; rintro e w3 ⟨hb3, rfl⟩; have hs3 := hb3.size)
      | (go_at_call 11; refine (same_any _ _ _ _ _ _ _ _ _ _ _ ((HR1.out.below hb2).below (hb3.mono hs2)) ((HR2.out.below (hb2.mono hs1)).below (hb3.mono (Nat.le_trans hs1 hs2))) (Nat.le_trans hs2 hs3) (Nat.le_trans hs1 (Nat.le_trans hs2 hs3)) hn hn).mono ?_; rw [beq_self_eq_true]; rintro e w4 ⟨rfl, hb4⟩; have hs4 := hb4.size)
      | (go_at_call 14; refine (live_any _).mono ?_; rintro e w5 ⟨rfl, hb5⟩))
    go_ret
    exact bool_of rfl (below_next (below_next (below_next (below_next hb1 hb2 hs1) hb3 (Nat.le_trans hs1 hs2)) hb4 (Nat.le_trans hs1 (Nat.le_trans hs2 hs3))) hb5 (Nat.le_trans hs1 (Nat.le_trans hs2 (Nat.le_trans hs3 hs4))))
end Go.Proofs.Ytdngjneihjhnkaa.Text
