/- The law oxbowlaw12.DocParts, walked. -/
import Derived.Test.YtdhpbfmamkndjaaDocLf
namespace Go.Proofs.Ytdhpbfmamkndjaa.Doc
open Go.RowKit Ox
set_option linter.unusedVariables false
set_option linter.unusedSimpArgs false
theorem sz_le {l : List Rn} : ∀ r ∈ l, r.t.size ≤ (bytesOf l).length := fun r hr => by
  obtain ⟨l1, l2, e⟩ := List.append_of_mem hr
  have e2 : l1 ++ r :: l2 = l1 ++ ([r] ++ l2) := rfl
  rw [e, e2, bytesOf_append, bytesOf_append, List.length_append, List.length_append]
  have : (bytesOf [r]).length = r.t.size := by simp [bytesOf]
  omega
theorem runs_sz {a : List At} (hl : a.length ≤ 10000) : ∀ r ∈ runsOf a, r.t.size ≤ 1000000000000 := fun r hr => by
  have h1 := flat_le a
  rw [← (runs_bytes a).1] at h1
  have := sz_le r hr
  omega
theorem slice_small (l : List Rn) (a b : Int) : (resR (sliceOf l a b)).length ≤ 1000 ∧ ∀ r ∈ resR (sliceOf l a b), r.t.size ≤ 1000000000000 := by
  rcases Classical.em (Good l) with hg | hg
  · by_cases h2 : a < 0 ∨ b < a ∨ ((atoms l).length : Int) < b
    · rw [sl_2 hg h2]; simp [resR]
    · rw [sl_3 hg h2]
      have h1 := good_few hg
      have h3 : (((atoms l).take b.toNat).drop a.toNat).length ≤ 1000 := by rw [List.length_drop, List.length_take]; omega
      exact ⟨Nat.le_trans (runs_len_le _) h3, runs_sz (by omega)⟩
  · rw [sl_1 hg]; simp [resR]
theorem join_small (a b : List Rn) : (resR (joinOf a b)).length ≤ 2000 := by
  rcases Classical.em (Good a) with hg | hg
  · rcases Classical.em (Good b) with hg2 | hg2
    · rcases Classical.em (Good (runsOf (atoms a ++ atoms b))) with hg3 | hg3
      · rw [jo_3 hg hg2 hg3]
        have h1 := good_few hg
        have h2 := good_few hg2
        have h3 := runs_len_le (atoms a ++ atoms b)
        rw [List.length_append] at h3
        show (runsOf (atoms a ++ atoms b)).length ≤ 2000
        omega
      · rw [jo_2 hg hg2 hg3]; simp [resR]
    · rw [jo_1 (fun h => hg2 h.2)]; simp [resR]
  · rw [jo_1 (fun h => hg h.1)]; simp [resR]
set_option maxRecDepth 100000 in
set_option maxHeartbeats 8000000 in
theorem parts_law (A : Option Addr) (n c : Nat) (l : List Rn) (a b : Int) (w : World) (hr : Reads w w.heap.size 4 A n (rows l)) (hn : n ≤ 10000000) (hz : (bytesOf l).length ≤ 10000000)
    (ha : -9223372036854775808 ≤ a ∧ a ≤ 9223372036854775807) (hb : -9223372036854775808 ≤ b ∧ b ≤ 9223372036854775807) :
    Calls Try.prog 9 #[.slice A n c, .int .i64 a, .int .i64 b] w (Bool_ true w) := by
  have hzr := sz_of hz
  have hzr2 : ∀ r ∈ l, r.t.size ≤ 1000000000000 := fun r h => by have := sz_le r h; omega
  have HL := Lib.hid (rows_len hr)
  have hl1 : l.length ≤ 10000000 := by rw [HL.out]; exact hn
  have hCo := Lib.hid (copied_any A n c w.heap.size l w hr (Nat.le_refl _) (by omega))
  have hRS := Lib.hid (fun w' (h : Below w.heap.size w w') => rslice_any A n c w.heap.size l a b w' (hr.below h) h.size (by omega) hzr ha hb)
  obtain ⟨hs1, hs2⟩ := slice_small l a b
  have hs3 := join_small (resR (sliceOf l a b)) l
  have HR := Lib.hid hr
  clear hr
  go_enter Try.func9, Try.ntmps9
  go_wp2_with (go_at_call 28; refine (hCo.out).mono ?_; rintro e w1 ⟨v1, rfl, ho1, hb1⟩; obtain ⟨A1, c1, rfl, hnc1, hcm1, hrd1, _⟩ := own_slice ho1)
  have hSl := slice_any A1 l.length c1 w1.heap.size l a b w1 hrd1 (Nat.le_refl _) (by omega) (by omega) hzr hnc1 (own_lt ho1) ha hb
  generalize sliceOf l a b = q at *
  have HSl := Lib.hid hSl
  clear hSl hrd1 ho1
  go_wp2_with (first
    | (go_at_call 46; refine (HSl.out).mono ?_; intro e w2 hap; obtain ⟨hb2, A2, c2, rfl, ho2, hnc2⟩ := apres_uni hap; clear hap; have C2 := below_next hb1 hb2 hb1.size)
    | (go_at_call 47; refine (hRS.out _ C2).mono ?_; intro e w3 hap; obtain ⟨hb3, A3, c3, rfl, ho3, hnc3⟩ := apres_uni hap; clear hap; have C3 := below_next C2 hb3 C2.size))
  generalize hRR : resR q = R at *
  have ho23 := own_below ho2 hb3
  have hJ := join_any A2 R.length c2 w3.heap.size R A n c w.heap.size l w3 (Reads.of_own ho23) (Nat.le_refl _) (by omega) hs2 (HR.out.below C3) C3.size (by omega) hzr2
  have hRJ := Lib.hid (fun w' (h : Below w3.heap.size w3 w') => rjoin_any A3 R.length c3 w3.heap.size R A n c w.heap.size l w' ((Reads.of_own ho3).below h) h.size (by omega) hs2 ((HR.out.below C3).below (h.mono C3.size)) (Nat.le_trans C3.size h.size) (by omega) hzr2)
  have hS1 := Lib.hid (fun w' (h : Below w3.heap.size w3 w') => same_true (same_any A2 A3 R.length c2 w3.heap.size R.length c3 w3.heap.size R R w' ((Reads.of_own ho23).below h) ((Reads.of_own ho3).below h) h.size h.size (by omega) (by omega)))
  generalize joinOf R l = q2 at *
  have HJ := Lib.hid hJ
  clear hJ ho23 ho2 ho3 hb2 hb3
  go_wp2_with (first
    | (go_at_call 48; refine (HJ.out).mono ?_; intro e w4 hap; obtain ⟨hb4, A4, c4, rfl, ho4, hnc4⟩ := apres_uni hap; clear hap; have C4 := below_next C3 hb4 C3.size)
    | (go_at_call 49; refine (hRJ.out _ hb4).mono ?_; intro e w5 hap; obtain ⟨hb5, A5, c5, rfl, ho5, hnc5⟩ := apres_uni hap; clear hap; have C5 := below_next C4 hb5 C4.size))
  generalize hRR2 : resR q2 = R2 at *
  have ho45 := own_below ho4 hb5
  have D5 := hb4.trans (hb5.mono hb4.size)
  have hS2 := Lib.hid (fun w' (h : Below w5.heap.size w5 w') => same_true (same_any A4 A5 R2.length c4 w5.heap.size R2.length c5 w5.heap.size R2 R2 w' ((Reads.of_own ho45).below h) ((Reads.of_own ho5).below h) h.size h.size (by omega) (by omega)))
  clear ho45 ho4 ho5
  go_wp2_with (fail)
  refine (hS1.out _ D5).mono ?_
  rintro e w6 ⟨rfl, hb6⟩
  go_wp2_with (fail)
  refine (hS2.out _ hb6).mono ?_
  rintro e w7 ⟨rfl, hb7⟩
  have C6 := below_next C5 hb6 C5.size
  have C7 := below_next C6 hb7 C6.size
  go_wp2_with (go_at_call 38; refine (live_any _).mono ?_; rintro e w8 ⟨rfl, hb8⟩)
  go_ret
  exact bool_of rfl (below_next C7 hb8 C7.size)
end Go.Proofs.Ytdhpbfmamkndjaa.Doc
