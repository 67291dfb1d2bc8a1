/- The law oxbowlaw12.DocChecks, walked. -/
import Derived.Test.YtdhpbfmamkndjaaDocZ
namespace Go.Proofs.Ytdhpbfmamkndjaa.Doc
open Go.RowKit Ox
set_option linter.unusedVariables false
set_option linter.unusedSimpArgs false
/-- what a law's walk knows of its first argument and the copy -/
theorem sz_of {l : List Rn} (h : (bytesOf l).length ≤ 10000000) : ∀ r ∈ l, r.t.size ≤ 10000000000000 := fun r hr => by
  obtain ⟨l1, l2, e⟩ := List.append_of_mem hr
  rw [e] at h
  have e2 : l1 ++ r :: l2 = l1 ++ ([r] ++ l2) := rfl
  rw [e2, bytesOf_append, bytesOf_append, List.length_append, List.length_append] at h
  have : (bytesOf [r]).length = r.t.size := by simp [bytesOf]
  omega
theorem same_true {w : World} {args : Array Value} {K : Nat} {l : List Rn} (h : Calls Try.prog K args w (Bool_ (decide (l = l)) w)) : Calls Try.prog K args w (Bool_ true w) := by simpa using h
theorem blk_of_below {w w' : World} {cs : Array Value} {t : TypeId} (hb : Below (w.alloc (.cells cs t)).heap.size (w.alloc (.cells cs t)) w') : Blk w' w.heap.size t cs := (Blk.new w t cs).below hb (by simp)
theorem blk_chain {w w' : World} {cs cs' : Array Value} {t t' : TypeId} {N : Nat} (h : Blk w N t cs) (hb : Below (w.alloc (.cells cs' t')).heap.size (w.alloc (.cells cs' t')) w') : Blk w' N t cs := (h.alloc _).below hb (by have := h.lt; simp; omega)
theorem chain {w0 w w' : World} {B : Nat} {o : Obj} (h : Below B w0 w) (hB : B ≤ w.heap.size) (hb : Below (w.alloc o).heap.size (w.alloc o) w') : Below B w0 w' := (h.alloc hB o).trans (hb.mono (Nat.le_trans hB (by simp)))
theorem atres_cases {o : Option At} : (o = none) ∨ ∃ a, o = some a := by cases o <;> simp
set_option maxRecDepth 100000 in
set_option maxHeartbeats 8000000 in
theorem checks_law (A : Option Addr) (n c : Nat) (l : List Rn) (i : Int) (w : World) (hr : Reads w w.heap.size 4 A n (rows l)) (hn : n ≤ 10000000) (hz : (bytesOf l).length ≤ 10000000) (hi : -9223372036854775808 ≤ i ∧ i ≤ 9223372036854775807) :
    Calls Try.prog 5 #[.slice A n c, .int .i64 i] w (Bool_ true w) := by
  have hzr := sz_of hz
  have HL := Lib.hid (rows_len hr)
  have hCo := copied_any A n c w.heap.size l w hr (Nat.le_refl _) (by omega)
  have HCo := Lib.hid hCo
  have hRC := Lib.hid (fun w' (h : Below w.heap.size w w') => rcheck_any A n c w.heap.size l w' (hr.below h) h.size (by omega) hzr)
  have hRT := Lib.hid (fun w' (h : Below w.heap.size w w') => rtext_any A n c w.heap.size l w' (hr.below h) h.size (by omega) (by omega))
  have hRL := Lib.hid (fun w' (h : Below w.heap.size w w') => rlen_any A n c w.heap.size l w' (hr.below h) h.size (by omega) (by omega))
  have hRA := Lib.hid (fun w' (h : Below w.heap.size w w') => rat_any A n c w.heap.size l i w' (hr.below h) h.size (by omega) hzr hi)
  have HRr := Lib.hid hr
  clear hCo hr
  go_enter Try.func5, Try.ntmps5
  go_wp2_with (go_at_call 28; refine (HCo.out).mono ?_; rintro e w1 ⟨v1, rfl, ho1, hb1⟩; obtain ⟨A1, c1, rfl, hnc1, hcm1, hrd1, _⟩ := own_slice ho1)
  have hl1 : l.length ≤ 10000000 := by rw [HL.out]; exact hn
  have hC := Lib.hid (fun w' (h : Below w1.heap.size w1 w') => check_any A1 l.length c1 w1.heap.size l w' (hrd1.below h) h.size (by omega) hzr)
  have hT := Lib.hid (fun w' (h : Below w1.heap.size w1 w') => text_any A1 l.length c1 w1.heap.size l w' (hrd1.below h) h.size (by omega) (by omega))
  have hLn := Lib.hid (fun w' (h : Below w1.heap.size w1 w') => len_any A1 l.length c1 w1.heap.size l w' (hrd1.below h) h.size (by omega) (by omega))
  have hAt := Lib.hid (fun w' (h : Below w1.heap.size w1 w') => at_any A1 l.length c1 w1.heap.size l i w' (hrd1.below h) h.size (by omega) hzr hi)
  have hS := Lib.hid (fun w' (h : Below w1.heap.size w1 w') => same_true (same_any A1 A l.length c1 w1.heap.size n c w.heap.size l l w' (hrd1.below h) ((HRr.out.below hb1).below (h.mono hb1.size)) h.size (Nat.le_trans hb1.size h.size) (by omega) (by omega)))
  have HB1 := Lib.hid hb1
  have hR := Below.refl w1.heap.size w1
  clear hrd1 ho1 hb1 HRr
  generalize chk l = X1 at *
  generalize Text.lenOf (bytesOf l) = X2 at *
  generalize bytesOf l = X3 at *
  rcases atres_cases (o := atOf l i) with ea | ⟨a, ea⟩
  all_goals
    rw [ea] at hAt hRA
    clear ea
    go_wp2_with (first
      | (go_at_call 29; refine (hC.out _ hR).mono ?_; rintro e w2 ⟨rfl, hb2⟩; have B2 := hR.trans (hb2.mono hR.size))
      | (go_at_call 30; refine (hT.out _ B2).mono ?_; rintro e w3 ⟨rfl, hb3⟩; have B3 := B2.trans (hb3.mono B2.size))
      | (go_at_call 31; refine (hLn.out _ B3).mono ?_; rintro e w4 ⟨rfl, hb4⟩; have B4 := B3.trans (hb4.mono B3.size))
      | (go_at_call 32; refine (hAt.out _ B4).mono ?_; rintro e w5 ⟨hb5, rfl⟩; have B5 := B4.trans (hb5.mono B4.size); have C5 := HB1.out.trans (B5.mono HB1.out.size))
      | (go_at_call 33; refine (hRA.out _ (C5.alloc C5.size _)).mono ?_; rintro e w6 ⟨hb6, rfl⟩; have kz5 := blk_of_below hb6; have C6 := chain C5 C5.size hb6; have B6 := chain B5 B5.size hb6)
      | (go_at_call 34; refine (hRC.out _ (C6.alloc C6.size _)).mono ?_; rintro e w7 ⟨rfl, hb7⟩; have kz7 := blk_of_below hb7; have ky7 := blk_chain kz5 hb7; have C7 := chain C6 C6.size hb7; have B7 := chain B6 B6.size hb7)
      | (go_at_call 35; refine (hRT.out _ C7).mono ?_; rintro e w8 ⟨rfl, hb8⟩; have C8 := C7.trans (hb8.mono C7.size); have B8 := B7.trans (hb8.mono B7.size))
      | (go_at_call 36; refine (hRL.out _ C8).mono ?_; rintro e w9 ⟨rfl, hb9⟩; have C9 := C8.trans (hb9.mono C8.size); have B9 := B8.trans (hb9.mono B8.size); obtain ⟨q1, q2⟩ := org_cells ((ky7.below hb8 ky7.lt).below hb9 (ky7.below hb8 ky7.lt).lt); obtain ⟨q3, q4⟩ := org_cells ((kz7.below hb8 kz7.lt).below hb9 (kz7.below hb8 kz7.lt).lt))
      | (go_at_call 37; refine (hS.out _ B9).mono ?_; rintro e w10 ⟨rfl, hb10⟩; have C10 := C9.trans (hb10.mono C9.size))
      | (go_at_call 38; refine (live_any _).mono ?_; rintro e w11 ⟨rfl, hb11⟩))
    go_ret
    exact bool_of rfl (C10.trans (hb11.mono C10.size))
end Go.Proofs.Ytdhpbfmamkndjaa.Doc
