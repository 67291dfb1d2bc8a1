/- The law oxbowlaw12.DocBack, walked. -/
import Derived.Test.YtdhpbfmamkndjaaDocLg
namespace Go.Proofs.Ytdhpbfmamkndjaa.Doc
open Go.RowKit Ox
set_option linter.unusedVariables false
set_option linter.unusedSimpArgs false
theorem cut_place (x : Int) (n : Nat) (h0 : 0 ≤ x) : ∃ k : Nat, Int.tmod x ((n : Int) + 1) = k ∧ k ≤ n := by
  have h1 := Int.tmod_nonneg ((n : Int) + 1) h0
  have h2 := Int.tmod_lt_of_pos x (show (0 : Int) < (n : Int) + 1 by omega)
  exact ⟨(Int.tmod x ((n : Int) + 1)).toNat, by omega, by omega⟩
theorem good_atom {l : List Rn} (h : Good l) : ∀ x ∈ atoms l, orgB x.c x.s = true ∧ 0 ≤ x.n ∧ x.n ≤ 999 := by
  intro x hx
  obtain ⟨r, hr, hx⟩ := List.mem_flatMap.1 hx
  obtain ⟨i, hi, rfl⟩ := List.getElem_of_mem hr
  have hk := h.runs i _ (List.getElem?_eq_getElem hi)
  have h1 := hk.lo
  have h2 := hk.last
  have h3 := hk.org
  rw [(h.val _ hr).lenR] at h2
  unfold atomsR at hx
  obtain ⟨j, hj, rfl⟩ := List.mem_map.1 hx
  have hj' : j < (ptsL l[i]).length := by simpa using hj
  simp only
  exact ⟨h3, by omega, by omega⟩
/-- a part of a document's atoms, in order, makes a document -/
theorem good_sub {l : List Rn} (h : Good l) {a : List At} (hs : List.Sublist a (atoms l)) : Good (runsOf a) ∧ atoms (runsOf a) = a := by
  have hp : ∀ x ∈ a, isPt x.p = true := fun x hx => (good_fit h x (hs.subset hx)).1
  refine ⟨good_of hp (fun x hx => (good_atom h x (hs.subset hx)).1) (fun x hx => (good_atom h x (hs.subset hx)).2) ?_ ?_, (runs_inv hp).atoms⟩
  · have h1 := h.nodup
    rw [← atoms_nm] at h1
    exact (hs.map At.nm).nodup h1
  · have h1 := good_few h
    have h2 := hs.length_le
    omega
set_option maxRecDepth 100000 in
set_option maxHeartbeats 8000000 in
theorem back_law (A : Option Addr) (n c : Nat) (l : List Rn) (at_ : Int) (w : World) (hr : Reads w w.heap.size 4 A n (rows l)) (hn : n ≤ 10000000) (hz : (bytesOf l).length ≤ 10000000) (hnc : n ≤ c) (hA : ∀ ad, A = some ad → ad.block < w.heap.size)
    (hat : -9223372036854775808 ≤ at_ ∧ at_ ≤ 9223372036854775807) :
    Calls Try.prog 10 #[.slice A n c, .int .i64 at_] w (Bool_ true w) := by
  have hzr := sz_of hz
  have HL := Lib.hid (rows_len hr)
  have hC := check_any A n c w.heap.size l w hr (Nat.le_refl _) (by omega) hzr
  rcases chk_cases l with ⟨hg, e⟩ | ⟨hg, e⟩
  · rw [e] at hC
    have HC := Lib.hid hC
    have hLe := fun w' (h : Below w.heap.size w w') => len_any A n c w.heap.size l w' (hr.below h) h.size (by omega) (by omega)
    rw [good_len hg] at hLe
    have hal := good_few hg
    have hx : ∃ x, 0 ≤ x ∧ ((0 ≤ at_ ∧ x = at_) ∨ (at_ < 0 ∧ x = -(at_ + 1))) := by
      by_cases h : 0 ≤ at_
      · exact ⟨at_, h, .inl ⟨h, rfl⟩⟩
      · exact ⟨-(at_ + 1), by omega, .inr ⟨by omega, rfl⟩⟩
    obtain ⟨x, hx0, hx⟩ := hx
    obtain ⟨k, hk, hkn⟩ := cut_place x (atoms l).length hx0
    have hS1 := fun w' (h : Below w.heap.size w w') => slice_any A n c w.heap.size l 0 k w' (hr.below h) h.size (by omega) (by omega) hzr hnc (fun ad e => Nat.lt_of_lt_of_le (hA ad e) h.size) (by omega) (by omega)
    have hS2 := fun w' (h : Below w.heap.size w w') => slice_any A n c w.heap.size l k ((atoms l).length : Int) w' (hr.below h) h.size (by omega) (by omega) hzr hnc (fun ad e => Nat.lt_of_lt_of_le (hA ad e) h.size) (by omega) (by omega)
    rw [sl_3 hg (by omega)] at hS1 hS2
    simp only [Int.toNat_natCast, Int.toNat_zero, List.drop_zero, List.take_length] at hS1 hS2
    obtain ⟨hg1, ha1⟩ := good_sub hg (List.take_sublist k (atoms l))
    obtain ⟨hg2, ha2⟩ := good_sub hg (List.drop_sublist k (atoms l))
    have hjo : joinOf (runsOf ((atoms l).take k)) (runsOf ((atoms l).drop k)) = (some (atoms l), 0) := by
      have h3 : Good (runsOf (atoms (runsOf ((atoms l).take k)) ++ atoms (runsOf ((atoms l).drop k)))) := by rw [ha1, ha2, List.take_append_drop, hg.runs_]; exact hg
      rw [jo_3 hg1 hg2 h3, ha1, ha2, List.take_append_drop]
    have hJo := fun (A1 : Option Addr) (c1 : Nat) (A2 : Option Addr) (c2 : Nat) (w' : World) (h1 : Reads w' w'.heap.size 4 A1 (runsOf ((atoms l).take k)).length (rows (runsOf ((atoms l).take k)))) (h2 : Reads w' w'.heap.size 4 A2 (runsOf ((atoms l).drop k)).length (rows (runsOf ((atoms l).drop k)))) =>
      join_any A1 _ c1 w'.heap.size _ A2 _ c2 w'.heap.size _ w' h1 (Nat.le_refl _) (by have := runs_len_le ((atoms l).take k); have : ((atoms l).take k).length ≤ (atoms l).length := (by rw [List.length_take]; omega); omega) (runs_sz (by rw [List.length_take]; omega)) h2 (Nat.le_refl _) (by have := runs_len_le ((atoms l).drop k); rw [List.length_drop] at this; omega) (runs_sz (by rw [List.length_drop]; omega))
    rw [hjo] at hJo
    have HJo := Lib.hid hJo
    have HS1 := Lib.hid hS1
    have HS2 := Lib.hid hS2
    have HLe := Lib.hid hLe
    have HR := Lib.hid hr
    have hrl : Hid (runsOf (atoms l) = l) := hg.runs_
    have hl1 : l.length ≤ 10000000 := by rw [HL.out]; exact hn
    clear hC e hLe hS1 hS2 hjo hJo hr hg1 hg2 ha1 ha2
    generalize (atoms l).length = T at *
    generalize hR1 : runsOf ((atoms l).take k) = R1 at *
    generalize hR2 : runsOf ((atoms l).drop k) = R2 at *
    have HR1 := Lib.hid hR1
    have HR2 := Lib.hid hR2
    clear hR1 hR2
    rcases hx with ⟨h0, rfl⟩ | ⟨h0, rfl⟩
    all_goals
      go_enter Try.func10, Try.ntmps10
      go_wp2_with (first
        | (go_at_call 29; refine (HC.out).mono ?_; rintro e w2 ⟨rfl, hb2⟩)
        | (go_at_call 31; refine (HLe.out _ hb2).mono ?_; rintro e w3 ⟨rfl, hb3⟩; have B3 := below_next hb2 hb3 hb2.size))
      refine (HS1.out _ B3).mono ?_
      intro e w4 hap
      obtain ⟨hb4, v4, rfl, ho4⟩ := hap
      simp only [HR1.out] at ho4
      obtain ⟨A4, c4, rfl, hnc4, _, _, _⟩ := own_slice ho4
      have B4 := below_next B3 hb4 B3.size
      go_wp2_with (fail)
      refine (HS2.out _ B4).mono ?_
      intro e w5 hap
      obtain ⟨hb5, v5, rfl, ho5⟩ := hap
      simp only [HR2.out] at ho5
      obtain ⟨A5, c5, rfl, hnc5, _, hrd5, _⟩ := own_slice ho5
      have B5 := below_next B4 hb5 B4.size
      have hj := HJo.out A4 c4 A5 c5 w5 (Reads.of_own (own_below ho4 hb5)) hrd5
      have HJ := Lib.hid hj
      clear hj hrd5 ho4 ho5
      go_wp2_with (fail)
      refine (HJ.out).mono ?_
      intro e w6 hap
      obtain ⟨hb6, v6, rfl, ho6⟩ := hap
      simp only [hrl.out] at ho6
      obtain ⟨A6, c6, rfl, hnc6, _, hrd6, _⟩ := own_slice ho6
      have B6 := below_next B5 hb6 B5.size
      have hSa := same_true (same_any A6 A l.length c6 w6.heap.size n c w.heap.size l l w6 hrd6 (HR.out.below B6) (Nat.le_refl _) B6.size (by omega) (by omega))
      have HSa := Lib.hid hSa
      clear hSa hrd6 ho6
      go_wp2_with (first
        | (go_at_call 37; refine (HSa.out).mono ?_; rintro e w7 ⟨rfl, hb7⟩; have B7 := below_next B6 hb7 B6.size)
        | (go_at_call 38; refine (live_any _).mono ?_; rintro e w8 ⟨rfl, hb8⟩))
      go_ret
      exact bool_of rfl (below_next B7 hb8 B7.size)
  · rw [e] at hC
    have HC := Lib.hid hC
    clear hC e
    go_enter Try.func10, Try.ntmps10
    go_wp2_with (first
      | (go_at_call 29; refine (HC.out).mono ?_; rintro e w2 ⟨rfl, hb2⟩)
      | (go_at_call 38; refine (live_any _).mono ?_; rintro e w8 ⟨rfl, hb8⟩))
    go_ret
    exact bool_of rfl (below_next hb2 hb8 hb2.size)
end Go.Proofs.Ytdhpbfmamkndjaa.Doc
