/- Contracts: Cut of oxbowref01; Compare, of package text and of oxbowref01. -/
import Derived.Test.YtdngjneihjhnkaaTextI
namespace Go.Proofs.Ytdngjneihjhnkaa.Text
open Go.RowKit Ox
set_option linter.unusedVariables false
set_option linter.unusedSimpArgs false

set_option maxRecDepth 100000 in
theorem rcut_any (s : ByteArray) (a b : Int) (w : World) (hs : s.size ≤ 10000000000000) : Calls Try.prog 18 #[.string s, .int .i64 a, .int .i64 b] w (StrNum (cutOf s.data.toList a b) w) := by
  have hc := rpoints_any s w hs
  cases hp : pts s.data.toList with
  | none =>
    have hf : cutOf s.data.toList a b = ([], 10) := by unfold cutOf; rw [hp]
    rw [hf]
    rw [hp] at hc
    have HC := Lib.hid hc
    clear hc hp hf
    go_enter Try.func18, Try.ntmps18
    go_wp2_with (go_at_call 10; refine (HC.out).mono ?_; rintro e w1 ⟨hb, rfl⟩)
    go_ret2
    exact ⟨rfl, hb⟩
  | some l =>
    have hll := pts_length_le hp
    have hsz : s.data.toList.length = s.size := by simp
    have hv := pts_valid hp
    have HV := Lib.hid hv
    rw [hp] at hc
    have HC := Lib.hid hc
    clear hc hv
    by_cases hr : a < 0 ∨ b < a ∨ (l.length : Int) < b
    · rw [cut_bad hp hr]
      clear hp
      by_cases h1 : a < 0
      · clear hr
        go_enter Try.func18, Try.ntmps18
        go_wp2_with (go_at_call 10; refine (HC.out).mono ?_; rintro e w1 ⟨hb, v, rfl, ho⟩; obtain ⟨A, c, rfl, hnc, hcm, hrd, _⟩ := own_slice ho)
        go_ret2
        exact ⟨rfl, hb⟩
      · by_cases h2 : b < a
        · clear hr
          go_enter Try.func18, Try.ntmps18
          go_wp2_with (go_at_call 10; refine (HC.out).mono ?_; rintro e w1 ⟨hb, v, rfl, ho⟩; obtain ⟨A, c, rfl, hnc, hcm, hrd, _⟩ := own_slice ho)
          go_ret2
          exact ⟨rfl, hb⟩
        · have h3 : (l.length : Int) < b := by omega
          clear hr
          go_enter Try.func18, Try.ntmps18
          go_wp2_with (go_at_call 10; refine (HC.out).mono ?_; rintro e w1 ⟨hb, v, rfl, ho⟩; obtain ⟨A, c, rfl, hnc, hcm, hrd, _⟩ := own_slice ho)
          go_ret2
          exact ⟨rfl, hb⟩
    · rw [cut_good hp hr]
      clear hp
      have g1 : 0 ≤ a := by omega
      have g2 : a ≤ b := by omega
      have g3 : b ≤ (l.length : Int) := by omega
      clear hr
      obtain ⟨x, rfl⟩ := Int.eq_ofNat_of_zero_le g1
      obtain ⟨y, rfl⟩ := Int.eq_ofNat_of_zero_le (show 0 ≤ b by omega)
      simp only [Int.toNat_natCast]
      go_enter Try.func18, Try.ntmps18
      go_wp2_with (go_at_call 10; refine (HC.out).mono ?_; rintro e w1 ⟨hb, v, rfl, ho⟩; obtain ⟨A, c, rfl, hnc, hcm, hrd, _⟩ := own_slice ho)
      all_goals
        go_at_call 16
        refine (rtext_any _ _ _ _ _ _ (cut_ints hrd (show x ≤ y by omega) (show y ≤ l.length by omega) (fun h => by first | exact rfl | (exfalso; omega))) (Nat.le_refl _) (by omega)).mono ?_
        rw [textOf_part HV.out]
        rintro e w2 ⟨hb2, rfl⟩
        go_wp2
        go_ret2
        exact ⟨rfl, below_next hb hb2 hb.size⟩

theorem compare_any (a b : ByteArray) (w : World) : Calls Try.prog 19 #[.string a, .string b] w fun e w' => e = .returned (.int .i64 (Lib.compareBytes a.data.toList b.data.toList)) ∧ w = w' := by
  have h1 : ∀ w : World, Calls Try.prog 29 #[.string a, .string b] w fun e w' => e = .returned (.int .i64 (Lib.compareBytes a.data.toList b.data.toList)) ∧ w = w' := by
    intro w
    go_enter Try.func29, Try.ntmps29
    go_wp2
    rw [run_callFunc_extern Try.func30 (by kernel_rfl) (by kernel_rfl) (by kernel_rfl) (e := Extern.BytealgCompare.compare) (by kernel_rfl), Lib.run_compareString]
    simp only [Result.andThen]
    rw [Oper.upon_value]
    go_wp2
    go_ret
    exact ⟨rfl, rfl⟩
  have h2 : ∀ w : World, Calls Try.prog 27 #[.string a, .string b] w fun e w' => e = .returned (.int .i64 (Lib.compareBytes a.data.toList b.data.toList)) ∧ w = w' := by
    intro w
    go_enter Try.func27, Try.ntmps27
    go_wp2_with (go_at_call 29; refine (h1 _).mono ?_; rintro e w' ⟨rfl, rfl⟩)
    go_ret
    exact ⟨rfl, rfl⟩
  go_enter Try.func19, Try.ntmps19
  go_wp2_with (go_at_call 27; refine (h2 _).mono ?_; rintro e w' ⟨rfl, rfl⟩)
  go_ret
  exact ⟨rfl, rfl⟩

/-! ### Compare, of oxbowref01 -/
structure CmpRel (a b : ByteArray) (w : World) (k : Nat) (wr : World) : Prop where
  la : k ≤ a.size
  lb : k ≤ b.size
  below : Below w.heap.size w wr
  eqn : Lib.compareBytes a.data.toList b.data.toList = Lib.compareBytes (a.data.toList.drop k) (b.data.toList.drop k)
theorem drop_at (a : ByteArray) (k : Nat) (h : k < a.size) : a.data.toList.drop k = a[k] :: a.data.toList.drop (k + 1) := by
  rw [List.drop_eq_getElem_cons (by simpa using h)]
  rfl
variable {a b : ByteArray} {w wr : World} {k : Nat}
theorem CmpRel.lt (h : CmpRel a b w k wr) (ha : k < a.size) (hb : k < b.size) (hl : (a[k].toNat : Int) < (b[k].toNat : Int)) : Lib.compareBytes a.data.toList b.data.toList = -1 := by
  rw [h.eqn, drop_at a k ha, drop_at b k hb, Lib.compareBytes, if_pos (UInt8.lt_iff_toNat_lt.2 (by omega))]
theorem CmpRel.gt (h : CmpRel a b w k wr) (ha : k < a.size) (hb : k < b.size) (hl : (b[k].toNat : Int) < (a[k].toNat : Int)) : Lib.compareBytes a.data.toList b.data.toList = 1 := by
  rw [h.eqn, drop_at a k ha, drop_at b k hb, Lib.compareBytes, if_neg (by rw [UInt8.lt_iff_toNat_lt]; omega), if_pos (UInt8.lt_iff_toNat_lt.2 (by omega))]
theorem CmpRel.step (h : CmpRel a b w k wr) (ha : k < a.size) (hb : k < b.size) (h1 : ¬ (a[k].toNat : Int) < (b[k].toNat : Int)) (h2 : ¬ (b[k].toNat : Int) < (a[k].toNat : Int)) {w' : World} (hw : Below w.heap.size w w') : CmpRel a b w (k + 1) w' :=
  ⟨by omega, by omega, hw, by rw [h.eqn, drop_at a k ha, drop_at b k hb, Lib.compareBytes, if_neg (by rw [UInt8.lt_iff_toNat_lt]; omega), if_neg (by rw [UInt8.lt_iff_toNat_lt]; omega)]⟩
theorem drop_len (a : ByteArray) (h : k = a.size) : a.data.toList.drop k = [] := List.drop_eq_nil_of_le (by simp [h])
theorem CmpRel.end_lt (h : CmpRel a b w k wr) (ha : k = a.size) (hb : k < b.size) : Lib.compareBytes a.data.toList b.data.toList = -1 := by
  rw [h.eqn, drop_len a ha, drop_at b k hb]; rfl
theorem CmpRel.end_gt (h : CmpRel a b w k wr) (ha : k < a.size) (hb : k = b.size) : Lib.compareBytes a.data.toList b.data.toList = 1 := by
  rw [h.eqn, drop_len b hb, drop_at a k ha]; rfl
theorem CmpRel.end_eq (h : CmpRel a b w k wr) (ha : k = a.size) (hb : k = b.size) : Lib.compareBytes a.data.toList b.data.toList = 0 := by
  rw [h.eqn, drop_len a ha, drop_len b hb]; rfl
theorem num_of {x y : Int} {w w' : World} (h : x = y) (hb : Below w.heap.size w w') : Num y w (.returned (.int .i64 x)) w' := ⟨by rw [h], hb⟩

set_option maxRecDepth 100000 in
theorem rcompare_any (a b : ByteArray) (w : World) (ha : a.size ≤ 9223372036854775807) (hb : b.size ≤ 9223372036854775807) :
    Calls Try.prog 20 #[.string a, .string b] w (Num (Lib.compareBytes a.data.toList b.data.toList) w) := by
  go_enter Try.func20, Try.ntmps20
  go_wp2
  go_loopw [5] (fun i wr => ∃ k : Nat, i = .int .i64 k ∧ CmpRel a b w k wr) (fun i _ => a.size - (intOf i).toNat)
  case atStart => exact ⟨0, rfl, Nat.zero_le _, Nat.zero_le _, Below.refl _ _, rfl⟩
  case round =>
    obtain ⟨k, rfl, hr⟩ := hrel
    have hka := hr.la
    have hkb := hr.lb
    by_cases h1 : k < a.size
    · by_cases h2 : k < b.size
      · have b1 := byte_bd a k h1
        have b2 := byte_bd b k h2
        go_wp2
        refine wp_region_text (by kernel_rfl) (by kernel_rfl) ?_
        go_wp2
        refine FinQ.intro (by kernel_rfl) ?_
        by_cases h3 : (a[k].toNat : Int) < (b[k].toNat : Int)
        · go_wp2
          go_ret
          exact num_of (hr.lt h1 h2 h3).symm hr.below.drew
        · go_wp2
          refine wp_region_text (by kernel_rfl) (by kernel_rfl) ?_
          go_wp2
          refine FinQ.intro (by kernel_rfl) ?_
          by_cases h4 : (b[k].toNat : Int) < (a[k].toNat : Int)
          · go_wp2
            go_ret
            exact num_of (hr.gt h1 h2 h4).symm hr.below.drew.drew
          · have hst := hr.step h1 h2 (by omega) (by omega) hr.below.drew.drew
            go_wp2
            go_roundw
            case rel => exact ⟨k + 1, by go_num, hst⟩
            case measure => simp [intOf]; omega
      · have h3 : k = b.size := by omega
        go_wp2
        go_ret
        exact num_of (hr.end_gt h1 h3).symm hr.below
    · have h3 : k = a.size := by omega
      by_cases h2 : k < b.size
      · go_wp2
        go_ret
        exact num_of (hr.end_lt h3 h2).symm hr.below
      · have h4 : k = b.size := by omega
        go_wp2
        go_ret
        exact num_of (hr.end_eq h3 h4).symm hr.below
end Go.Proofs.Ytdngjneihjhnkaa.Text
