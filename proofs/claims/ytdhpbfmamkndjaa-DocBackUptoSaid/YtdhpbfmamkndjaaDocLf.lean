/- Contract: oxbowref12.Join. -/
import Derived.Test.YtdhpbfmamkndjaaDocLe
namespace Go.Proofs.Ytdhpbfmamkndjaa.Doc
open Go.RowKit Ox
set_option linter.unusedVariables false
set_option linter.unusedSimpArgs false
set_option maxRecDepth 100000 in
set_option maxHeartbeats 8000000 in
theorem rjoin_any (A : Option Addr) (n c B : Nat) (a : List Rn) (A2 : Option Addr) (n2 c2 B2 : Nat) (b : List Rn) (w : World) (hr : Reads w B 4 A n (rows a)) (hB : B ≤ w.heap.size) (hn : n ≤ 100000000000) (hzr : ∀ r ∈ a, r.t.size ≤ 1000000000000)
    (hr2 : Reads w B2 4 A2 n2 (rows b)) (hB2 : B2 ≤ w.heap.size) (hn2 : n2 ≤ 100000000000) (hzr2 : ∀ r ∈ b, r.t.size ≤ 1000000000000) :
    Calls Try.prog 49 #[.slice A n c, .slice A2 n2 c2] w (ApRes (joinOf a b) w) := by
  have hC1 := rcheck_any A n c B a w hr hB hn (fun r h => Nat.le_trans (hzr r h) (by omega))
  have hC2 := fun w' (h : Below w.heap.size w w') => rcheck_any A2 n2 c2 B2 b w' (hr2.below (h.mono hB2)) (Nat.le_trans hB2 h.size) hn2 (fun r h => Nat.le_trans (hzr2 r h) (by omega))
  rcases chk_cases a with ⟨hg, e⟩ | ⟨hg, e⟩
  · rw [e] at hC1
    have HC1 := Lib.hid hC1
    clear hC1 e
    rcases chk_cases b with ⟨hg2, e⟩ | ⟨hg2, e⟩
    · rw [e] at hC2
      have HC2 := Lib.hid hC2
      have hA1 := Lib.hid (fun w' (h : Below w.heap.size w w') => atoms_any A n c B a w' (hr.below (h.mono hB)) (Nat.le_trans hB h.size) hn (fun r h => Nat.le_trans (hzr r h) (by omega)) (good_f hg) (Nat.le_trans (good_few hg) (by omega)))
      have hA2 := Lib.hid (fun w' (h : Below w.heap.size w w') => atoms_any A2 n2 c2 B2 b w' (hr2.below (h.mono hB2)) (Nat.le_trans hB2 h.size) hn2 (fun r h => Nat.le_trans (hzr2 r h) (by omega)) (good_f hg2) (Nat.le_trans (good_few hg2) (by omega)))
      have hl1 := good_few hg
      have hl2 := good_few hg2
      clear hC2 e hr hr2
      go_enter Try.func49, Try.ntmps49
      go_wp2_with (fail)
      refine (HC1.out).mono ?_
      rintro e w2 ⟨rfl, hb2⟩
      go_wp2_with (fail)
      refine (HC2.out _ hb2).mono ?_
      rintro e w3 ⟨rfl, hb3⟩
      have B3 := below_next hb2 hb3 hb2.size
      go_wp2_with (fail)
      refine (hA1.out _ B3).mono ?_
      rintro e w4 ⟨v1, rfl, ho1, hb4⟩
      obtain ⟨A3, c3, rfl, hnc3, hcm3, hrd3, _⟩ := own_slice ho1
      have B4 := below_next B3 hb4 B3.size
      have HRD3 := Lib.hid hrd3
      clear hrd3 ho1
      go_wp2_with (at_builtin; refine wpList_pushAll (base := w.heap.size) (B := w.heap.size) (n := 0) (xs := []) (.tmp 16) (.tmp 18) 54 59 4 32 rfl rfl Try.underlying54 info_atm rfl (by decide) rfl rfl HRD3.out (atRows_one _) (World.ownsRow_nil _ _ _ _) B4 (Nat.le_refl _) B4.size B4.size (by omega) (by omega) ?_)
      intro v5 w5 ho5 hb5 hs5 hg5
      have HO5 := Lib.hid ho5
      have B5 := Lib.hid hb5
      clear ho5 hg5 hb5
      go_wp2_with (fail)
      refine (hA2.out _ B5.out).mono ?_
      rintro e w6 ⟨v2, rfl, ho2, hb6⟩
      obtain ⟨A6, c6, rfl, hnc6, hcm6, hrd6, _⟩ := own_slice ho2
      have B6 := below_next B5.out hb6 B5.out.size
      have HRD6 := Lib.hid hrd6
      have HO6 := Lib.hid (own_below HO5.out hb6)
      clear hrd6 ho2
      go_wp2_with (at_builtin; refine wpList_pushAll (.tmp 20) (.tmp 22) 54 59 4 32 rfl rfl Try.underlying54 info_atm rfl (by decide) rfl rfl HRD6.out (atRows_one _) HO6.out B6 (Nat.le_refl _) B6.size B6.size (by omega) (by omega) ?_)
      intro v7 w7 ho7 hb7 hs7 hg7
      have ho7 : w7.ownsRow w.heap.size 59 4 v7 (atoms a ++ atoms b).length (atRows (atoms a ++ atoms b)) := by
        rw [List.length_append, atRows_append]
        simpa using ho7
      have hsz : (atoms a ++ atoms b).length ≤ 2000 := by rw [List.length_append]; omega
      obtain ⟨M, hM⟩ : ∃ M, M = (atoms a ++ atoms b).length := ⟨_, rfl⟩
      rw [← hM] at ho7
      obtain ⟨A7, c7, rfl, hnc7, hcm7, hrd7, _⟩ := own_slice ho7
      have hfit : Fit (atoms a ++ atoms b) := Fit.append (good_fit hg) (good_fit hg2)
      have hRu := runs_any A7 M c7 w7.heap.size _ w7 hrd7 (Nat.le_refl _) (by rw [hM]; omega) (fun y hy => by have := hfit y hy; omega)
      have HRu := Lib.hid hRu
      have B7 := Lib.hid hb7
      have HM := Lib.hid hM
      clear hM hRu hrd7 ho7 hb7 hg7 B6 B4 B3 hb2 hb3 hb4 hb6
      go_wp2_with (go_at_call 77; refine (HRu.out).mono ?_; rintro e w8 ⟨v8, rfl, ho8, hb8⟩)
      obtain ⟨A8, c8, rfl, hnc8, hcm8, hrd8, _⟩ := own_slice ho8
      have hCf := rcheck_any A8 _ c8 w8.heap.size (runsOf (atoms a ++ atoms b)) w8 hrd8 (Nat.le_refl _) (by have := runs_len_le (atoms a ++ atoms b); omega) (bytes_sz (by omega))
      have HO8 := Lib.hid (own_base ho8 B7.out.size)
      have B8 := Lib.hid (below_next B7.out hb8 B7.out.size)
      clear hrd8 ho8 hb8
      rcases chk_cases (runsOf (atoms a ++ atoms b)) with ⟨hg3, e⟩ | ⟨hg3, e⟩
      · rw [e] at hCf
        have HCf := Lib.hid hCf
        have hres := Lib.hid (jo_3 hg hg2 hg3)
        clear hCf e
        go_wp2_with (go_at_call 34; refine (HCf.out).mono ?_; rintro e w9 ⟨rfl, hb9⟩)
        go_ret2
        exact ap_some hres.out (below_next B8.out hb9 B8.out.size) (own_below HO8.out hb9)
      · rw [e] at hCf
        have HCf := Lib.hid hCf
        have hres := Lib.hid (jo_2 hg hg2 hg3)
        clear hCf e
        go_wp2_with (go_at_call 34; refine (HCf.out).mono ?_; rintro e w9 ⟨rfl, hb9⟩)
        go_ret2
        exact ap_none hres.out (below_next B8.out hb9 B8.out.size)
    · rw [e] at hC2
      have HC2 := Lib.hid hC2
      have hres := Lib.hid (jo_1 (a := a) (b := b) (fun h => hg2 h.2))
      clear hC2 e
      go_enter Try.func49, Try.ntmps49
      go_wp2_with (fail)
      refine (HC1.out).mono ?_
      rintro e w2 ⟨rfl, hb2⟩
      go_wp2_with (fail)
      refine (HC2.out _ hb2).mono ?_
      rintro e w3 ⟨rfl, hb3⟩
      go_wp2
      go_ret2
      exact ap_none hres.out (below_next hb2 hb3 hb2.size)
  · rw [e] at hC1
    have HC1 := Lib.hid hC1
    have hres := Lib.hid (jo_1 (a := a) (b := b) (fun h => hg h.1))
    clear hC1 e
    go_enter Try.func49, Try.ntmps49
    go_wp2_with (go_at_call 34; refine (HC1.out).mono ?_; rintro e w2 ⟨rfl, hb2⟩)
    go_ret2
    exact ap_none hres.out hb2
end Go.Proofs.Ytdhpbfmamkndjaa.Doc
