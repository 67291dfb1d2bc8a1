/- Contracts: Join, of doc. -/
import Derived.Test.YtdhpbfmamkndjaaDocLd
namespace Go.Proofs.Ytdhpbfmamkndjaa.Doc
open Go.RowKit Ox
set_option linter.unusedVariables false
set_option linter.unusedSimpArgs false
noncomputable def joinOf (a b : List Rn) : Option (List At) × Int := open Classical in
  if ¬ (Good a ∧ Good b) then (none, 120) else if Good (runsOf (atoms a ++ atoms b)) then (some (atoms a ++ atoms b), 0) else (none, 120)
theorem jo_1 {a b : List Rn} (h : ¬ (Good a ∧ Good b)) : joinOf a b = (none, 120) := by unfold joinOf; rw [if_pos h]
theorem jo_2 {a b : List Rn} (h1 : Good a) (h2 : Good b) (h3 : ¬ Good (runsOf (atoms a ++ atoms b))) : joinOf a b = (none, 120) := by unfold joinOf; rw [if_neg (fun g => g ⟨h1, h2⟩), if_neg h3]
theorem jo_3 {a b : List Rn} (h1 : Good a) (h2 : Good b) (h3 : Good (runsOf (atoms a ++ atoms b))) : joinOf a b = (some (atoms a ++ atoms b), 0) := by unfold joinOf; rw [if_neg (fun g => g ⟨h1, h2⟩), if_pos h3]
theorem Fit.nil : Fit [] := fun x h => by simp at h
def joinX (a b : List Rn) (j : Nat) : List At := if j = 0 then [] else if j = 1 then atoms a else atoms a ++ atoms b
theorem bytes_sz {a : List At} (hl : a.length ≤ 10000) : ∀ r ∈ runsOf a, r.t.size ≤ 10000000000000 := fun r hr => by
  have h1 := flat_le a
  rw [← (runs_bytes a).1] at h1
  exact sz_of (by omega) r hr
set_option maxRecDepth 100000 in
set_option maxHeartbeats 8000000 in
theorem join_any (A : Option Addr) (n c B : Nat) (a : List Rn) (A2 : Option Addr) (n2 c2 B2 : Nat) (b : List Rn) (w : World) (hr : Reads w B 4 A n (rows a)) (hB : B ≤ w.heap.size) (hn : n ≤ 100000000000) (hzr : ∀ r ∈ a, r.t.size ≤ 1000000000000)
    (hr2 : Reads w B2 4 A2 n2 (rows b)) (hB2 : B2 ≤ w.heap.size) (hn2 : n2 ≤ 100000000000) (hzr2 : ∀ r ∈ b, r.t.size ≤ 1000000000000) :
    Calls Try.prog 48 #[.slice A n c, .slice A2 n2 c2] w (ApRes (joinOf a b) w) := by
  have hC1 := check_any A n c B a w hr hB hn (fun r h => Nat.le_trans (hzr r h) (by omega))
  have hC2 := fun w' (h : Below w.heap.size w w') => check_any A2 n2 c2 B2 b w' (hr2.below (h.mono hB2)) (Nat.le_trans hB2 h.size) hn2 (fun r h => Nat.le_trans (hzr2 r h) (by omega))
  have HL := Lib.hid (rows_len hr)
  have HL2 := Lib.hid (rows_len hr2)
  rcases chk_cases a with ⟨hg, e⟩ | ⟨hg, e⟩
  · rw [e] at hC1
    have HC1 := Lib.hid hC1
    clear hC1 e
    rcases chk_cases b with ⟨hg2, e⟩ | ⟨hg2, e⟩
    · rw [e] at hC2
      have HC2 := Lib.hid hC2
      have HR1 := Lib.hid hr
      have HR2 := Lib.hid hr2
      clear hC2 e hr hr2
      go_enter Try.func48, Try.ntmps48
      go_wp2_with (fail)
      refine (HC1.out).mono ?_
      rintro e w2 ⟨rfl, hb2⟩
      go_wp2_with (fail)
      refine (HC2.out _ hb2).mono ?_
      rintro e w3 ⟨rfl, hb3⟩
      have B3 := below_next hb2 hb3 hb2.size
      have hkb0 := Blk.new w3 30 #[.slice A n c, .slice A2 n2 c2]
      have hbl0 := B3.alloc B3.size (.cells #[.slice A n c, .slice A2 n2 c2] 30)
      generalize hNB : w3.heap.size = NB at hkb0
      have HNB := Lib.hid hNB
      go_wp2_with (fail)
      try rw [HNB.out]
      generalize w3.alloc (.cells #[.slice A n c, .slice A2 n2 c2] 30) = w4 at hkb0 hbl0 ⊢
      clear hNB hb2 hb3 B3
      go_loopw [6, 24] (fun v i wr => ∃ j : Nat, j ≤ 2 ∧ i = .int .i64 j ∧ OwnR wr w.heap.size v (runsOf (joinX a b j)) ∧ Below w.heap.size w wr ∧ Blk wr NB 30 #[.slice A n c, .slice A2 n2 c2]) (fun _ i _ => 2 - (intOf i).toNat)
      case atStart => exact ⟨0, by omega, rfl, World.ownsRow_nil _ _ _ _, hbl0, hkb0⟩
      case round =>
        obtain ⟨wo, hwo⟩ : ∃ wo, wo = wr := ⟨_, rfl⟩
        subst hwo
        obtain ⟨j, hj, rfl, how, hbl, hkb⟩ := hrel
        have hk0 : wo.cell? ⟨NB, 0, none⟩ = some (.slice A n c) := hkb.cell 0
        have hk1 : wo.cell? ⟨NB, 1, none⟩ = some (.slice A2 n2 c2) := hkb.cell 1
        have hj3 : j = 0 ∨ j = 1 ∨ j = 2 := by omega
        have HOW := Lib.hid how
        clear how
        rcases hj3 with rfl | rfl | rfl
        · have HOW : Hid (OwnR wo w.heap.size u6 (runsOf [])) := HOW.out
          rw [show ((0 : Nat) : Int) = 0 from rfl]
          go_wp2
          go_loopw [6, 30] (fun v i wr' => ∃ k : Nat, k ≤ n ∧ i = .int .i64 k ∧ OwnR wr' w.heap.size v (runsOf ([] ++ atoms (a.take k))) ∧ Below w.heap.size w wr' ∧ Blk wr' NB 30 #[.slice A n c, .slice A2 n2 c2]) (fun _ i _ => n - (intOf i).toNat)
          case atStart => exact ⟨0, Nat.zero_le _, rfl, by simpa [atoms] using HOW.out, hbl, hkb⟩
          case round =>
            obtain ⟨k, hk, rfl, how2, hbl2, hkb2⟩ := hrel
            by_cases hlt : k < n
            · obtain ⟨ad, p, r, hAe, hp, hbk, hx, p1, p2, p3, p4⟩ := run_at ((HR1.out.more hB).below hbl2) hlt
              have hv := hg.val r (List.mem_of_getElem? hx.out)
              have hfit2 : Fit ([] ++ atoms (a.take k)) := Fit.append Fit.nil (fun y hy => good_fit hg y (by rw [← List.take_append_drop k a, atoms_append]; exact List.mem_append_left _ hy))
              have hln2 : ([] ++ atoms (a.take k)).length ≤ 10000 := by
                have h1 := good_few hg
                have h2 : (atoms (a.take k)).length ≤ (atoms a).length := by
                  conv => rhs; rw [← List.take_append_drop k a, atoms_append]
                  simp
                have h3 := (show ([] : List At).length ≤ 1000 by decide)
                rw [List.length_append]
                omega
              have hadd : ∀ w3, Below wr.heap.size wr w3 → Calls Try.prog 73 #[u6, r.val] w3 (AddRes w3 w.heap.size u6 (addD (runsOf ([] ++ atoms (a.take k))) r)) := fun w3 hb => add_any u6 _ _ r w3 (own_below how2 hb) (Nat.le_trans hbl2.size hb.size) (Nat.le_trans (runs_len_le _) (by omega)) (hfit2.runs (by omega)) (by have := hzr r (List.mem_of_getElem? hx.out); omega)
              rw [addD_runs hfit2.pt hv, List.append_assoc, ← atoms_snoc hx.out] at hadd
              change ∀ w3, Below wr.heap.size wr w3 → Calls Try.prog 73 #[u6, .agg #[.int .i64 r.c, .int .i64 r.s, .int .i64 r.f, .string r.t]] w3 _ at hadd
              have HADD := Lib.hid hadd
              have hb1 := (Below.refl wr.heap.size wr).alloc (Nat.le_refl _) (.cells #[.int .i64 r.c, .int .i64 r.s, .int .i64 r.f, .string r.t] 37)
              have hst : ∀ w4 v4, OwnR w4 w.heap.size v4 (runsOf ([] ++ atoms (a.take (k + 1)))) → Grow (wr.alloc (.cells #[.int .i64 r.c, .int .i64 r.s, .int .i64 r.f, .string r.t] 37)) u6 w4 v4 → Below w.heap.size w w4 ∧ Blk w4 NB 30 #[.slice A n c, .slice A2 n2 c2] := fun w4 v4 ho4 hg4 => by
                have how1 := own_below how2 hb1
                exact ⟨hg4.below (below_next hbl2 hb1 hbl2.size) (Nat.le_trans hbl2.size hb1.size) (fun g hg => (how1.lt g hg).1), (hkb2.alloc _).grown hg4.1 (fun h => own_blk_ne how1 (hkb2.alloc _) (by decide) h.symm)⟩
              have HS := Lib.hid hst
              clear hadd hst hfit2 how2 hbl2 hkb2 hv
              subst hAe
              go_wp2_with (go_at_call 73; refine (HADD.out _ hb1).mono ?_; rintro e w4 ⟨v4, rfl, ho4, hg4⟩)
              have HST := Lib.hid (HS.out _ _ ho4 hg4)
              have HO4 := Lib.hid ho4
              clear ho4 hg4
              go_roundw
              case rel => exact ⟨k + 1, by omega, by go_num, HO4.out, HST.out.1, HST.out.2⟩
              case measure => simp [intOf]; omega
            · have hkn : a.take k = a := List.take_of_length_le (by have := HL.out; omega)
              rw [hkn] at how2
              have HO2 := Lib.hid how2
              clear how2 hkn
              go_wp2
              go_roundw
              case rel => exact ⟨1, by omega, rfl, by simpa [joinX] using HO2.out, hbl2, hkb2⟩
              case measure => simp [intOf]
        · have HOW : Hid (OwnR wo w.heap.size u6 (runsOf (atoms a))) := HOW.out
          rw [show ((1 : Nat) : Int) = 1 from rfl]
          go_wp2
          go_loopw [6, 30] (fun v i wr' => ∃ k : Nat, k ≤ n2 ∧ i = .int .i64 k ∧ OwnR wr' w.heap.size v (runsOf (atoms a ++ atoms (b.take k))) ∧ Below w.heap.size w wr' ∧ Blk wr' NB 30 #[.slice A n c, .slice A2 n2 c2]) (fun _ i _ => n2 - (intOf i).toNat)
          case atStart => exact ⟨0, Nat.zero_le _, rfl, by simpa [atoms] using HOW.out, hbl, hkb⟩
          case round =>
            obtain ⟨k, hk, rfl, how2, hbl2, hkb2⟩ := hrel
            by_cases hlt : k < n2
            · obtain ⟨ad, p, r, hAe, hp, hbk, hx, p1, p2, p3, p4⟩ := run_at ((HR2.out.more hB2).below hbl2) hlt
              have hv := hg2.val r (List.mem_of_getElem? hx.out)
              have hfit2 : Fit (atoms a ++ atoms (b.take k)) := Fit.append (good_fit hg) (fun y hy => good_fit hg2 y (by rw [← List.take_append_drop k b, atoms_append]; exact List.mem_append_left _ hy))
              have hln2 : (atoms a ++ atoms (b.take k)).length ≤ 10000 := by
                have h1 := good_few hg2
                have h2 : (atoms (b.take k)).length ≤ (atoms b).length := by
                  conv => rhs; rw [← List.take_append_drop k b, atoms_append]
                  simp
                have h3 := (good_few hg)
                rw [List.length_append]
                omega
              have hadd : ∀ w3, Below wr.heap.size wr w3 → Calls Try.prog 73 #[u6, r.val] w3 (AddRes w3 w.heap.size u6 (addD (runsOf (atoms a ++ atoms (b.take k))) r)) := fun w3 hb => add_any u6 _ _ r w3 (own_below how2 hb) (Nat.le_trans hbl2.size hb.size) (Nat.le_trans (runs_len_le _) (by omega)) (hfit2.runs (by omega)) (by have := hzr2 r (List.mem_of_getElem? hx.out); omega)
              rw [addD_runs hfit2.pt hv, List.append_assoc, ← atoms_snoc hx.out] at hadd
              change ∀ w3, Below wr.heap.size wr w3 → Calls Try.prog 73 #[u6, .agg #[.int .i64 r.c, .int .i64 r.s, .int .i64 r.f, .string r.t]] w3 _ at hadd
              have HADD := Lib.hid hadd
              have hb1 := (Below.refl wr.heap.size wr).alloc (Nat.le_refl _) (.cells #[.int .i64 r.c, .int .i64 r.s, .int .i64 r.f, .string r.t] 37)
              have hst : ∀ w4 v4, OwnR w4 w.heap.size v4 (runsOf (atoms a ++ atoms (b.take (k + 1)))) → Grow (wr.alloc (.cells #[.int .i64 r.c, .int .i64 r.s, .int .i64 r.f, .string r.t] 37)) u6 w4 v4 → Below w.heap.size w w4 ∧ Blk w4 NB 30 #[.slice A n c, .slice A2 n2 c2] := fun w4 v4 ho4 hg4 => by
                have how1 := own_below how2 hb1
                exact ⟨hg4.below (below_next hbl2 hb1 hbl2.size) (Nat.le_trans hbl2.size hb1.size) (fun g hg => (how1.lt g hg).1), (hkb2.alloc _).grown hg4.1 (fun h => own_blk_ne how1 (hkb2.alloc _) (by decide) h.symm)⟩
              have HS := Lib.hid hst
              clear hadd hst hfit2 how2 hbl2 hkb2 hv
              subst hAe
              go_wp2_with (go_at_call 73; refine (HADD.out _ hb1).mono ?_; rintro e w4 ⟨v4, rfl, ho4, hg4⟩)
              have HST := Lib.hid (HS.out _ _ ho4 hg4)
              have HO4 := Lib.hid ho4
              clear ho4 hg4
              go_roundw
              case rel => exact ⟨k + 1, by omega, by go_num, HO4.out, HST.out.1, HST.out.2⟩
              case measure => simp [intOf]; omega
            · have hkn : b.take k = b := List.take_of_length_le (by have := HL2.out; omega)
              rw [hkn] at how2
              have HO2 := Lib.hid how2
              clear how2 hkn
              go_wp2
              go_roundw
              case rel => exact ⟨2, by omega, rfl, by simpa [joinX] using HO2.out, hbl2, hkb2⟩
              case measure => simp [intOf]
        · have how : OwnR wo w.heap.size u6 (runsOf (atoms a ++ atoms b)) := HOW.out
          obtain ⟨Ao, co, rfl, hnco, hcmo, hrdo, _⟩ := own_slice how
          have hsz : (atoms a ++ atoms b).length ≤ 2000 := by rw [List.length_append]; have := good_few hg; have := good_few hg2; omega
          have hCf := check_any Ao _ co wo.heap.size (runsOf (atoms a ++ atoms b)) wo hrdo (Nat.le_refl _) (by have := runs_len_le (atoms a ++ atoms b); omega) (bytes_sz (by omega))
          have HO := Lib.hid how
          clear hrdo how HOW
          rcases chk_cases (runsOf (atoms a ++ atoms b)) with ⟨hg3, e⟩ | ⟨hg3, e⟩
          · rw [e] at hCf
            have HCf := Lib.hid hCf
            have hres := Lib.hid (jo_3 hg hg2 hg3)
            clear hCf e
            generalize (runsOf (atoms a ++ atoms b)).length = M at *
            go_wp2_with (go_at_call 29; refine (HCf.out).mono ?_; rintro e w5 ⟨rfl, hb5⟩)
            go_ret2
            exact ap_some hres.out (below_next hbl hb5 hbl.size) (own_below HO.out hb5)
          · rw [e] at hCf
            have HCf := Lib.hid hCf
            have hres := Lib.hid (jo_2 hg hg2 hg3)
            clear hCf e
            go_wp2_with (go_at_call 29; refine (HCf.out).mono ?_; rintro e w5 ⟨rfl, hb5⟩)
            go_ret2
            exact ap_none hres.out (below_next hbl hb5 hbl.size)
    · rw [e] at hC2
      have HC2 := Lib.hid hC2
      have hres := Lib.hid (jo_1 (a := a) (b := b) (fun h => hg2 h.2))
      clear hC2 e
      go_enter Try.func48, Try.ntmps48
      go_wp2_with (fail)
      refine (HC1.out).mono ?_
      rintro e w2 ⟨rfl, hb2⟩
      go_wp2_with (fail)
      refine (HC2.out _ hb2).mono ?_
      rintro e w3 ⟨rfl, hb3⟩
      go_wp2
      go_ret2
      exact ap_none hres.out (below_next hb2 hb3 hb2.size)
  · rw [e] at hC1
    have HC1 := Lib.hid hC1
    have hres := Lib.hid (jo_1 (a := a) (b := b) (fun h => hg h.1))
    clear hC1 e
    go_enter Try.func48, Try.ntmps48
    go_wp2_with (go_at_call 29; refine (HC1.out).mono ?_; rintro e w2 ⟨rfl, hb2⟩)
    go_ret2
    exact ap_none hres.out hb2
end Go.Proofs.Ytdhpbfmamkndjaa.Doc
