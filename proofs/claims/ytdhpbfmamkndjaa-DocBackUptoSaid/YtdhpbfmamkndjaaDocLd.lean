/- Contracts: Slice, of doc and of oxbowref12. -/
import Derived.Test.YtdhpbfmamkndjaaDocLc
namespace Go.Proofs.Ytdhpbfmamkndjaa.Doc
open Go.RowKit Ox
set_option linter.unusedVariables false
set_option linter.unusedSimpArgs false
noncomputable def sliceOf (l : List Rn) (a b : Int) : Option (List At) × Int := open Classical in
  if ¬ Good l then (none, 120) else if a < 0 ∨ b < a ∨ ((atoms l).length : Int) < b then (none, 1) else (some (((atoms l).take b.toNat).drop a.toNat), 0)
theorem sl_1 {l : List Rn} {a b : Int} (h : ¬ Good l) : sliceOf l a b = (none, 120) := by unfold sliceOf; rw [if_pos h]
theorem sl_2 {l : List Rn} {a b : Int} (h : Good l) (h2 : a < 0 ∨ b < a ∨ ((atoms l).length : Int) < b) : sliceOf l a b = (none, 1) := by unfold sliceOf; rw [if_neg (fun g => g h), if_pos h2]
theorem sl_3 {l : List Rn} {a b : Int} (h : Good l) (h2 : ¬ (a < 0 ∨ b < a ∨ ((atoms l).length : Int) < b)) : sliceOf l a b = (some (((atoms l).take b.toNat).drop a.toNat), 0) := by unfold sliceOf; rw [if_neg (fun g => g h), if_neg h2]
set_option maxRecDepth 100000 in
set_option maxHeartbeats 8000000 in
theorem slice_any (A : Option Addr) (n c B : Nat) (l : List Rn) (a b : Int) (w : World) (hr : Reads w B 4 A n (rows l)) (hB : B ≤ w.heap.size) (hn : n ≤ 100000000000) (hz : (bytesOf l).length ≤ 10000000000000) (hzr : ∀ r ∈ l, r.t.size ≤ 10000000000000) (hnc : n ≤ c) (hA : ∀ ad, A = some ad → ad.block < w.heap.size)
    (ha : -9223372036854775808 ≤ a ∧ a ≤ 9223372036854775807) (hb : -9223372036854775808 ≤ b ∧ b ≤ 9223372036854775807) :
    Calls Try.prog 46 #[.slice A n c, .int .i64 a, .int .i64 b] w (ApRes (sliceOf l a b) w) := by
  have hC := check_any A n c B l w hr hB hn hzr
  have hLe := Lib.hid (fun w' (h : Below w.heap.size w w') => len_any A n c B l w' (hr.below (h.mono hB)) (Nat.le_trans hB h.size) hn hz)
  rcases chk_cases l with ⟨hg, e⟩ | ⟨hg, e⟩
  · rw [e] at hC
    have HC := Lib.hid hC
    clear hC e
    have hLe2 := Lib.hid (fun w' (h : Below w.heap.size w w') => by have g := hLe.out w' h; rw [good_len hg] at g; exact g)
    clear hLe
    have hal := good_few hg
    by_cases h1 : a < 0
    · have hres := Lib.hid (sl_2 (a := a) (b := b) hg (.inl h1))
      go_enter Try.func46, Try.ntmps46
      go_wp2_with (go_at_call 29; refine (HC.out).mono ?_; rintro e w2 ⟨rfl, hb2⟩)
      go_ret2
      exact ap_none hres.out hb2
    · by_cases h2 : b < a
      · have hres := Lib.hid (sl_2 (a := a) (b := b) hg (.inr (.inl h2)))
        go_enter Try.func46, Try.ntmps46
        go_wp2_with (go_at_call 29; refine (HC.out).mono ?_; rintro e w2 ⟨rfl, hb2⟩)
        go_ret2
        exact ap_none hres.out hb2
      · by_cases h3 : ((atoms l).length : Int) < b
        · have hres := Lib.hid (sl_2 (a := a) (b := b) hg (.inr (.inr h3)))
          generalize (atoms l).length = T at *
          go_enter Try.func46, Try.ntmps46
          go_wp2_with (first
            | (go_at_call 29; refine (HC.out).mono ?_; rintro e w2 ⟨rfl, hb2⟩)
            | (go_at_call 31; refine (hLe2.out _ hb2).mono ?_; rintro e w3 ⟨rfl, hb3⟩))
          go_ret2
          exact ap_none hres.out (below_next hb2 hb3 hb2.size)
        · obtain ⟨x, rfl⟩ := Int.eq_ofNat_of_zero_le (show 0 ≤ a by omega)
          obtain ⟨y, rfl⟩ := Int.eq_ofNat_of_zero_le (show 0 ≤ b by omega)
          have hres := sl_3 hg (a := (x : Int)) (b := (y : Int)) (by omega)
          simp only [Int.toNat_natCast] at hres
          have HRES := Lib.hid hres
          have hfit := good_fit hg
          generalize hTT : (atoms l).length = T at hal h3 hLe2
          have HTT := Lib.hid hTT
          clear hTT hres
          go_enter Try.func46, Try.ntmps46
          go_wp2_with (first
            | (go_at_call 29; refine (HC.out).mono ?_; rintro e w2 ⟨rfl, hb2⟩)
            | (go_at_call 31; refine (hLe2.out _ hb2).mono ?_; rintro e w3 ⟨rfl, hb3⟩; have B3 := below_next hb2 hb3 hb2.size))
          have hst0 : TakeRel l [] false w.heap.size w3.heap.size (w3.alloc (.cells #[.slice A n c] 112)) 0 (.slice none 0 0) (w3.alloc (.cells #[.slice A n c] 112)) :=
            ⟨⟨A, n, c, l, Left.start hg.val, ⟨Blk.new w3 _ _, ((hr.more hB).below B3 |>.alloc B3.size _).more (by have := B3.size; simp; omega), fun ad e => by have := hA ad e; have := B3.size; omega, hnc, fun ad e => by have := hA ad e; have := B3.size; simp; omega⟩, fun ad _ => by simp [Value.ownBlock]⟩, World.ownsRow_nil _ _ _ _, Below.refl _ _, Nat.zero_le _⟩
          refine (take_any l [] false w.heap.size w3.heap.size x _ _ hst0 (by have := HTT.out; omega) (fun y hy => by simp at hy) hfit (by have := HTT.out; simp; omega) B3.size).mono ?_
          rintro e w4 ⟨v4, rfl, ht4⟩
          obtain ⟨⟨A4, m4, c4, R4, hL4, hR4, hap4⟩, _, hbl4, _⟩ := ht4
          have hsub : IntKind.i64.wrap ((y : Int) - (x : Int)) = ((y - x : Nat) : Int) := by rw [IntWalk.i64_in _ (by omega)]; omega
          have hsub2 : ((y : Int) - (x : Int)) = ((y - x : Nat) : Int) := by omega
          have hst5 : TakeRel R4 [] true w.heap.size w3.heap.size w4 0 (.slice none 0 0) w4 := ⟨⟨A4, m4, c4, R4, Left.start hL4.val, hR4, fun ad _ => by simp [Value.ownBlock]⟩, World.ownsRow_nil _ _ _ _, Below.refl _ _, Nat.zero_le _⟩
          have htk := take_any R4 [] true w.heap.size w3.heap.size (y - x) _ _ hst5 (by have := hL4.le; have := HTT.out; omega) (fun y hy => by simp at hy) (by rw [hL4.eqn]; exact hfit.drop _) (by have := hL4.le; have := HTT.out; simp; omega) B3.size
          have HTK := Lib.hid htk
          have HB4 := Lib.hid (show Below w.heap.size w w4 from (B3.alloc B3.size _).trans hbl4)
          have HL4 := Lib.hid hL4
          clear htk hst5 hst0 hL4 hR4 hap4 hbl4 hsub
          go_wp2_with (fail)
          refine (HTK.out).mono ?_
          rintro e w5 ⟨v5, rfl, ht5⟩
          have ho5 := ht5.own
          simp only [if_true, List.nil_append] at ho5
          rw [HL4.out.eqn, ← show ((atoms l).take y).drop x = ((atoms l).drop x).take (y - x) from List.drop_take ..] at ho5
          have HO := Lib.hid ho5
          have HB5 := Lib.hid (HB4.out.trans ht5.below)
          clear ho5 ht5
          go_wp2
          go_ret2
          exact ap_some HRES.out HB5.out HO.out
  · rw [e] at hC
    have HC := Lib.hid hC
    have hres := Lib.hid (sl_1 (a := a) (b := b) hg)
    clear hC e
    go_enter Try.func46, Try.ntmps46
    go_wp2_with (go_at_call 29; refine (HC.out).mono ?_; rintro e w2 ⟨rfl, hb2⟩)
    go_ret2
    exact ap_none hres.out hb2
set_option maxRecDepth 100000 in
set_option maxHeartbeats 8000000 in
theorem rslice_any (A : Option Addr) (n c B : Nat) (l : List Rn) (a b : Int) (w : World) (hr : Reads w B 4 A n (rows l)) (hB : B ≤ w.heap.size) (hn : n ≤ 100000000000) (hzr : ∀ r ∈ l, r.t.size ≤ 10000000000000)
    (ha : -9223372036854775808 ≤ a ∧ a ≤ 9223372036854775807) (hb : -9223372036854775808 ≤ b ∧ b ≤ 9223372036854775807) :
    Calls Try.prog 47 #[.slice A n c, .int .i64 a, .int .i64 b] w (ApRes (sliceOf l a b) w) := by
  have hC := rcheck_any A n c B l w hr hB hn hzr
  rcases chk_cases l with ⟨hg, e⟩ | ⟨hg, e⟩
  · rw [e] at hC
    have HC := Lib.hid hC
    clear hC e
    have hAt := Lib.hid (fun w' (h : Below w.heap.size w w') => atoms_any A n c B l w' (hr.below (h.mono hB)) (Nat.le_trans hB h.size) hn hzr (good_f hg) (Nat.le_trans (good_few hg) (by omega)))
    have hal := good_few hg
    by_cases h0 : a < 0 ∨ b < a ∨ ((atoms l).length : Int) < b
    · have hres := Lib.hid (sl_2 (a := a) (b := b) hg h0)
      have h1 : a < 0 ∨ (0 ≤ a ∧ b < a) ∨ (0 ≤ a ∧ a ≤ b ∧ ((atoms l).length : Int) < b) := by omega
      clear h0
      rcases h1 with h1 | ⟨h1, h2⟩ | ⟨h1, h2, h3⟩
      all_goals
        go_enter Try.func47, Try.ntmps47
        go_wp2_with (first
          | (go_at_call 34; refine (HC.out).mono ?_; rintro e w2 ⟨rfl, hb2⟩)
          | (go_at_call 43; refine (hAt.out _ hb2).mono ?_; rintro e w3 ⟨va, rfl, hoa, hb3⟩; obtain ⟨Aa, ca, rfl, hnca, hcma, hra, _⟩ := own_slice hoa))
        go_ret2
        exact ap_none hres.out (below_next hb2 hb3 hb2.size)
    · obtain ⟨x, rfl⟩ := Int.eq_ofNat_of_zero_le (show 0 ≤ a by omega)
      obtain ⟨y, rfl⟩ := Int.eq_ofNat_of_zero_le (show 0 ≤ b by omega)
      have hres := sl_3 hg h0
      simp only [Int.toNat_natCast] at hres
      have HRES := Lib.hid hres
      have hfit := Lib.hid (good_fit hg)
      have g1 : x ≤ y := by omega
      have g2 : y ≤ (atoms l).length := by omega
      have g3 : (x : Int) ≤ (y : Int) := by omega
      have g4 : (y : Int) ≤ ((atoms l).length : Int) := by omega
      clear hres h0
      go_enter Try.func47, Try.ntmps47
      go_wp2_with (first
        | (go_at_call 34; refine (HC.out).mono ?_; rintro e w2 ⟨rfl, hb2⟩)
        | (go_at_call 43; refine (hAt.out _ hb2).mono ?_; rintro e w3 ⟨va, rfl, hoa, hb3⟩; obtain ⟨Aa, ca, rfl, hnca, hcma, hra, _⟩ := own_slice hoa))
      all_goals
        go_at_call 77
        refine (runs_any _ _ _ _ _ _ (cut_atoms hra g1 g2 (fun h => by first | exact rfl | (exfalso; omega))) (Nat.le_refl _) (by omega) (fun z hz => by have := hfit.out z (List.mem_of_mem_take (List.mem_of_mem_drop hz)); omega)).mono ?_
        rintro e w4 ⟨v4, rfl, ho4, hb4⟩
        have hB3 := below_next hb2 hb3 hb2.size
        go_wp2
        go_ret2
        exact ap_some HRES.out (below_next hB3 hb4 hB3.size) (own_base ho4 hB3.size)
  · rw [e] at hC
    have HC := Lib.hid hC
    have hres := Lib.hid (sl_1 (a := a) (b := b) hg)
    clear hC e
    go_enter Try.func47, Try.ntmps47
    go_wp2_with (go_at_call 34; refine (HC.out).mono ?_; rintro e w2 ⟨rfl, hb2⟩)
    go_ret2
    exact ap_none hres.out hb2
end Go.Proofs.Ytdhpbfmamkndjaa.Doc
