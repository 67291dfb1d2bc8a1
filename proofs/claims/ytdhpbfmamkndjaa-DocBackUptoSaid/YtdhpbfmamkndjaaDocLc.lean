/- The law oxbowlaw12.DocApplies, walked. -/
import Derived.Test.YtdhpbfmamkndjaaDocLa
import Derived.Test.YtdhpbfmamkndjaaDocLb
namespace Go.Proofs.Ytdhpbfmamkndjaa.Doc
open Go.RowKit Ox
set_option linter.unusedVariables false
set_option linter.unusedSimpArgs false
def resR (q : Option (List At) × Int) : List Rn := match q.1 with | none => [] | some a => runsOf a
theorem apres_uni {q : Option (List At) × Int} {w w' : World} {e : Ending} (h : ApRes q w e w') : Below w.heap.size w w' ∧ ∃ A c, e = .returned (.tuple #[.slice A (resR q).length c, .int .i64 q.2]) ∧ OwnR w' w.heap.size (.slice A (resR q).length c) (resR q) ∧ (resR q).length ≤ c := by
  obtain ⟨hb, h⟩ := h
  refine ⟨hb, ?_⟩
  obtain ⟨o, x⟩ := q
  cases o with
  | none => exact ⟨none, 0, h, World.ownsRow_nil _ _ _ _, Nat.le_refl _⟩
  | some a =>
    obtain ⟨v, he, ho⟩ := h
    obtain ⟨A, c, rfl, hn, _, _, _⟩ := own_slice ho
    exact ⟨A, c, he, ho, hn⟩
theorem apply_small (l : List Rn) (d : List Opn) (oc os : Int) : (resR (applyOf l d oc os)).length ≤ 1000 := by
  rcases chk_cases l with ⟨hg, _⟩ | ⟨hg, _⟩
  · rcases chk9_cases d with ⟨e, _⟩ | ⟨e, _⟩ | ⟨e, _, ho, hs1, hs2, _⟩
    · rw [ap_2 hg (by rw [e]; decide)]; simp [resR]
    · rw [ap_2 hg (by rw [e]; decide)]; simp [resR]
    · by_cases h3 : sumOf opB d = ((atoms l).length : Int)
      · cases h4 : orgB oc os with
        | false => rw [ap_4 hg e h3 h4]; simp [resR]
        | true =>
          rcases Classical.em (HasO l oc os) with h5 | h5
          · rw [ap_5 hg e h3 h4 h5]; simp [resR]
          · rw [ap_6 hg e h3 h4 h5]
            have h6 := (st_ok (atoms l) oc os d ho d.length (Nat.le_refl _)).len
            rw [List.take_length] at h6
            have h7 := runs_len_le (stOf (atoms l) oc os d).1
            show (runsOf (stOf (atoms l) oc os d).1).length ≤ 1000
            omega
      · rw [ap_3 hg e h3]; simp [resR]
  · rw [ap_1 hg]; simp [resR]
theorem own_lt {w : World} {B : Nat} {e : TypeId} {size n c : Nat} {A : Option Addr} {xs : List Value} (h : w.ownsRow B e size (.slice A n c) n xs) : ∀ ad, A = some ad → ad.block < w.heap.size := fun ad e => (h.lt ad.block (by rw [e]; rfl)).2
theorem same9_true {w : World} {args : Array Value} {K : Nat} {l : List Opn} (h : Calls Try.prog K args w (Bool_ (decide (l = l)) w)) : Calls Try.prog K args w (Bool_ true w) := by simpa using h
set_option maxRecDepth 100000 in
set_option maxHeartbeats 8000000 in
theorem applies_law (A : Option Addr) (n c : Nat) (l : List Rn) (Ad : Option Addr) (nd cd : Nat) (d : List Opn) (oc os : Int) (w : World) (hr : Reads w w.heap.size 4 A n (rows l)) (hn : n ≤ 10000000) (hz : (bytesOf l).length ≤ 10000000) (hnc : n ≤ c) (hA : ∀ ad, A = some ad → ad.block < w.heap.size)
    (hd : Reads w w.heap.size 3 Ad nd (opRows d)) (hnd : nd ≤ 10000000) (hzd : ∀ x ∈ d, x.t.size ≤ 10000000) :
    Calls Try.prog 6 #[.slice A n c, .slice Ad nd cd, .agg #[.int .i64 oc, .int .i64 os]] w (Bool_ true w) := by
  have hzr := sz_of hz
  have HL := Lib.hid (rows_len hr)
  have HD := Lib.hid (opRows_len hd)
  have hl1 : l.length ≤ 10000000 := by rw [HL.out]; exact hn
  have hd1 : d.length ≤ 10000000 := by rw [HD.out]; exact hnd
  have hzd2 : ∀ x ∈ d, x.t.size ≤ 10000000000 := fun x hx => Nat.le_trans (hzd x hx) (by omega)
  have hb0 := (Below.refl w.heap.size w).alloc (Nat.le_refl _) (.cells #[.int .i64 oc, .int .i64 os] 35)
  have hCo := Lib.hid (copied_any A n c w.heap.size l (w.alloc (.cells #[.int .i64 oc, .int .i64 os] 35)) (hr.below hb0) hb0.size (by omega))
  have hCd := Lib.hid (fun w' (h : Below w.heap.size w w') => copied9_any Ad nd cd w.heap.size d w' (hd.below h) h.size (by omega))
  have hRA := Lib.hid (fun w' (h : Below w.heap.size w w') => rapply_any A n c w.heap.size l Ad nd cd w.heap.size d oc os w' (hr.below h) h.size (by omega) (by omega) hzr hnc (fun ad e => Nat.lt_of_lt_of_le (hA ad e) h.size) (hd.below h) h.size (by omega) hzd2)
  have hsm := apply_small l d oc os
  have HR := Lib.hid hr
  have HDD := Lib.hid hd
  clear hr hd
  go_enter Try.func6, Try.ntmps6
  go_wp2_with (first
    | (go_at_call 28; refine (hCo.out).mono ?_; rintro e w1 ⟨v1, rfl, ho1, hb1⟩; obtain ⟨A1, c1, rfl, hnc1, hcm1, hrd1, _⟩ := own_slice ho1; have C1 := hb0.trans (hb1.mono hb0.size); have ko1 := blk_of_below hb1)
    | (go_at_call 39; refine (hCd.out _ C1).mono ?_; rintro e w2 ⟨v2, rfl, ho2, hb2⟩; obtain ⟨A2, c2, rfl, hnc2, hcm2, hrd2, _⟩ := own_slice ho2; have C2 := C1.trans (hb2.mono C1.size); have ko2 := ko1.below hb2 ko1.lt; obtain ⟨o1, o2⟩ := org_cells ko2))
  have hAp := apply_any A1 l.length c1 w1.heap.size l A2 d.length c2 w2.heap.size d oc os w2 (hrd1.below hb2) hb2.size (by omega) (by omega) hzr hnc1 (fun ad e => Nat.lt_of_lt_of_le (own_lt ho1 ad e) hb2.size) hrd2 (Nat.le_refl _) (by omega) hzd2
  generalize applyOf l d oc os = q at *
  have HAp := Lib.hid hAp
  have h1r2 := Lib.hid (hrd1.below hb2)
  have h2r2 := Lib.hid hrd2
  have HB2 := Lib.hid hb2
  clear hAp hrd1 hrd2 ho1 ho2 hb1 hb2
  go_wp2_with (first
    | (go_at_call 40; refine (HAp.out).mono ?_; intro e w3 hap; obtain ⟨hb3, A3, c3, rfl, ho3, hnc3⟩ := apres_uni hap; clear hap; have C3 := C2.trans (hb3.mono C2.size); have ko3 := ko2.below hb3 ko2.lt; obtain ⟨o3, o4⟩ := org_cells ko3)
    | (go_at_call 41; refine (hRA.out _ C3).mono ?_; intro e w4 hap; obtain ⟨hb4, A4, c4, rfl, ho4, hnc4⟩ := apres_uni hap; clear hap; have C4 := C3.trans (hb4.mono C3.size)))
  generalize hRR : resR q = R at *
  have D4 : Below w2.heap.size w2 w4 := hb3.trans (hb4.mono hb3.size)
  have ho34 := own_below ho3 hb4
  have hS1 := same_true (same_any A3 A4 R.length c3 w4.heap.size R.length c4 w4.heap.size R R w4 (Reads.of_own ho34) (Reads.of_own ho4) (Nat.le_refl _) (Nat.le_refl _) (by omega) (by omega))
  have hSO := Lib.hid (fun w' (h : Below w2.heap.size w2 w') => same_true (same_any A1 A l.length c1 w1.heap.size n c w.heap.size l l w' (h1r2.out.below (h.mono HB2.out.size)) ((HR.out.below C2).below (h.mono C2.size)) (Nat.le_trans HB2.out.size h.size) (Nat.le_trans C2.size h.size) (by omega) (by omega)))
  have hS9 := Lib.hid (fun w' (h : Below w2.heap.size w2 w') => same9_true (same9_any A2 Ad d.length c2 w2.heap.size nd cd w.heap.size d d w' (h2r2.out.below h) ((HDD.out.below C2).below (h.mono C2.size)) h.size (Nat.le_trans C2.size h.size) (by omega) (by omega)))
  have HS1 := Lib.hid hS1
  have HO := Lib.hid ho34
  clear hS1 ho34 ho3 ho4 o1 o2 o3 o4
  go_wp2_with (fail)
  refine (HS1.out).mono ?_
  rintro e w5 ⟨rfl, hb5⟩
  have D5 := D4.trans (hb5.mono D4.size)
  go_wp2_with (fail)
  refine (hSO.out _ D5).mono ?_
  rintro e w6 ⟨rfl, hb6⟩
  have D6 := D5.trans (hb6.mono D5.size)
  go_wp2_with (go_at_call 42; refine (hS9.out _ D6).mono ?_; rintro e w7 ⟨rfl, hb7⟩; have D7 := D6.trans (hb7.mono D6.size))
  have HO7 := Lib.hid (own_below (own_below (own_below HO.out hb5) hb6) hb7)
  have HD7 := Lib.hid D7
  clear D4 D5 D6 D7 hb5 hb6 hb7
  generalize hRn : R.length = N at *
  go_loopw [13] (fun i wr => ∃ k : Nat, k ≤ N ∧ i = .int .i64 k ∧ (∃ xs, wr.ownsRow w2.heap.size 37 4 (.slice A3 N c3) N xs) ∧ Below w2.heap.size w2 wr) (fun i _ => N - (intOf i).toNat)
  case atStart => exact ⟨0, Nat.zero_le _, rfl, ⟨_, by have h := HO7.out; unfold OwnR at h; first | exact h | (rw [hRn] at h; exact h)⟩, HD7.out⟩
  case round =>
    obtain ⟨k, hk, rfl, ⟨xs, hox⟩, hbr⟩ := hrel
    by_cases hlt : k < N
    · obtain ⟨g, cap, hv, _, hgl⟩ := hox.form (by omega)
      simp only [Value.slice.injEq, true_and] at hv
      obtain ⟨rfl, rfl⟩ := hv
      have hxl := hox.1
      have hcell := hox.cellAt (k * 4 + 2) (by omega)
      have hx : xs[k * 4 + 2]? = some (xs[k * 4 + 2]'(by omega)) := List.getElem?_eq_getElem (by omega)
      rw [hx] at hcell
      generalize xs[k * 4 + 2]'(by omega) = u at hcell
      have hfz := hox.frozenAt (k * 4 + 2)
      have hst := (hox.stored (k * 4 + 2) (.int .i64 (-9))).1
      have hgb := (hox.lt g rfl).1
      have HST := Lib.hid hst
      clear hx hst hox hxl
      go_wp2
      go_roundw
      case rel => exact ⟨k + 1, by omega, by go_num, ⟨_, HST.out⟩, hbr.setCell hgb _⟩
      case measure => simp [intOf]; omega
    · have hwr := C2.trans (hbr.mono C2.size)
      go_wp2_with (first
        | (go_at_call 37; refine (hSO.out _ hbr).mono ?_; rintro e w8 ⟨rfl, hb8⟩)
        | (go_at_call 38; refine (live_any _).mono ?_; rintro e w9 ⟨rfl, hb9⟩))
      have hf := hwr.trans (hb8.mono hwr.size)
      go_ret
      exact bool_of rfl (hf.trans (hb9.mono hf.size))
end Go.Proofs.Ytdhpbfmamkndjaa.Doc
