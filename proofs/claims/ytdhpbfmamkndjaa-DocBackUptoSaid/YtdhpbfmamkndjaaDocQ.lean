/- Contracts: oxbowref09.Check, oxbowref09.Base. -/
import Derived.Test.YtdhpbfmamkndjaaDocP
namespace Go.Proofs.Ytdhpbfmamkndjaa.Doc
open Go.RowKit Ox
set_option linter.unusedVariables false
set_option linter.unusedSimpArgs false
/-- the cells of a boxed operation, behind a call -/
theorem op_cells {w1 w2 : World} {N : Nat} (hb : Below w1.heap.size w1 w2) (hN : N < w1.heap.size) : w2.cell? ⟨N, 0, none⟩ = w1.cell? ⟨N, 0, none⟩ ∧ w2.cell? ⟨N, 1, none⟩ = w1.cell? ⟨N, 1, none⟩ ∧ w2.cell? ⟨N, 2, none⟩ = w1.cell? ⟨N, 2, none⟩ :=
  ⟨hb.cell (p := ⟨N, 0, none⟩) hN, hb.cell (p := ⟨N, 1, none⟩) hN, hb.cell (p := ⟨N, 2, none⟩) hN⟩
theorem kOf_not {x : Opn} (h : kOf x = 0) : ¬ (x.k = 1 ∧ x.t.toList = [] ∧ 1 ≤ x.n ∧ x.n ≤ 1000) ∧ ¬ (x.k = 3 ∧ x.t.toList = [] ∧ 1 ≤ x.n ∧ x.n ≤ 1000) ∧ ¬ (x.k = 2 ∧ x.n = 0 ∧ 0 < lenO x) := by
  unfold kOf at h
  refine ⟨fun g => ?_, fun g => ?_, fun g => ?_⟩
  · rw [if_pos g] at h; cases h
  · by_cases g1 : x.k = 1 ∧ x.t.toList = [] ∧ 1 ≤ x.n ∧ x.n ≤ 1000
    · rw [if_pos g1] at h; cases h
    · rw [if_neg g1, if_pos g] at h; cases h
  · by_cases g1 : x.k = 1 ∧ x.t.toList = [] ∧ 1 ≤ x.n ∧ x.n ≤ 1000
    · rw [if_pos g1] at h; cases h
    · by_cases g2 : x.k = 3 ∧ x.t.toList = [] ∧ 1 ≤ x.n ∧ x.n ≤ 1000
      · rw [if_neg g1, if_pos g2] at h; cases h
      · rw [if_neg g1, if_neg g2, if_pos g] at h; cases h
noncomputable def chk9 (l : List Opn) : Int := (lens l).2.2
set_option maxRecDepth 100000 in
set_option maxHeartbeats 8000000 in
theorem rcheck9_any (A : Option Addr) (n c B : Nat) (l : List Opn) (w : World) (hr : Reads w B 3 A n (opRows l)) (hB : B ≤ w.heap.size) (hn : n ≤ 100000000000) (hz : ∀ r ∈ l, r.t.size ≤ 10000000000) :
    Calls Try.prog 110 #[.slice A n c] w (Text.Num (chk9 l) w) := by
  have HL := Lib.hid (opRows_len hr)
  by_cases hmany : 3000 < n
  · have h1 := Lib.hid (show chk9 l = 90 by unfold chk9; rw [lens_many (by rw [HL.out]; exact hmany)])
    go_enter Try.func110, Try.ntmps110
    go_wp2
    go_ret
    exact num_fin h1.out.symm (Below.refl _ _)
  · go_enter Try.func110, Try.ntmps110
    go_wp2
    go_loopw [3, 4, 5] (fun b t i wr => ∃ (k : Nat) (b' t' : Int), k ≤ n ∧ i = .int .i64 k ∧ b = .int .i64 b' ∧ t = .int .i64 t' ∧ 0 ≤ b' ∧ b' ≤ 1000 * k ∧ 0 ≤ t' ∧ t' ≤ 10000000000 * k ∧ LenRel l w k b' t' wr) (fun _ _ i _ => n - (intOf i).toNat)
    case atStart => exact ⟨0, 0, 0, Nat.zero_le _, rfl, rfl, rfl, by omega, by omega, by omega, by omega, fun x h => by simp at h, Below.refl _ _, rfl, rfl⟩
    case round =>
      obtain ⟨k, b, t, hk, rfl, rfl, rfl, b1, b2, t1, t2, hrl⟩ := hrel
      by_cases hlt : k < n
      · obtain ⟨ad, p, x, rfl, hp, hbk, hx, p1, p2, p3⟩ := op_at ((hr.more hB).below hrl.below) hlt
        have hxm := List.mem_of_getElem? hx.out
        have hL := fun w => Text.rlen_any x.t w (Nat.le_trans (hz x hxm) (by omega))
        change ∀ w, Calls Try.prog 70 #[.string x.t] w (Text.Num (lenO x) w) at hL
        have hlo := lenO_hi x
        have hxz := hz x hxm
        have HLn := Lib.hid hL
        have hbs := hrl.below.size
        clear hL
        rcases kOf_cases x with ⟨g, g1, g2, g3, g4⟩ | ⟨g, g1, g2, g3, g4⟩ | ⟨g, g1, g2, g3⟩ | g
        · have hst : ∀ w', Below w.heap.size w w' → LenRel l w (k + 1) (b + x.n) (t + x.n) w' := fun w' hb => hrl.step hx.out (by rw [g]; decide) hb (by unfold opB; rw [if_pos (.inl g)]) (by unfold opT; rw [if_pos g])
          have HS := Lib.hid hst
          have he' : (!x.t.toList.isEmpty) = false := by simp [g2]
          clear hst g
          go_wp2_with (go_at_call 70; refine (HLn.out _).mono ?_; rintro e w2 ⟨rfl, hb2⟩; obtain ⟨o1, o2, o3⟩ := op_cells (N := wr.heap.size) hb2 (by simp))
          have hst := Lib.hid (HS.out _ (below_next ((hrl.below).alloc hbs _) hb2 (by simp; omega)))
          go_roundw
          case rel => exact ⟨k + 1, _, _, by omega, by go_num, rfl, rfl, by omega, by omega, by omega, by omega, hst.out⟩
          case measure => simp [intOf]; omega
        · have hst : ∀ w', Below w.heap.size w w' → LenRel l w (k + 1) (b + x.n) t w' := fun w' hb => hrl.step hx.out (by rw [g]; decide) hb (by unfold opB; rw [if_pos (.inr g)]) (by unfold opT; rw [if_neg (by rw [g]; decide), if_neg (by rw [g]; decide)]; omega)
          have HS := Lib.hid hst
          have he' : (!x.t.toList.isEmpty) = false := by simp [g2]
          clear hst g
          go_wp2_with (go_at_call 70; refine (HLn.out _).mono ?_; rintro e w2 ⟨rfl, hb2⟩; obtain ⟨o1, o2, o3⟩ := op_cells (N := wr.heap.size) hb2 (by simp))
          have hst := Lib.hid (HS.out _ (below_next ((hrl.below).alloc hbs _) hb2 (by simp; omega)))
          go_roundw
          case rel => exact ⟨k + 1, _, _, by omega, by go_num, rfl, rfl, by omega, by omega, by omega, by omega, hst.out⟩
          case measure => simp [intOf]; omega
        · have hst : ∀ w', Below w.heap.size w w' → LenRel l w (k + 1) b (t + lenO x) w' := fun w' hb => hrl.step hx.out (by rw [g]; decide) hb (by unfold opB; rw [if_neg (by rw [g]; decide)]; omega) (by unfold opT; rw [if_neg (by rw [g]; decide), if_pos g])
          have HS := Lib.hid hst
          have gne : ¬ x.t.toList = [] := fun h => by have := lenO_nil h; omega
          have he' : (!x.t.toList.isEmpty) = true := by simp [gne]
          clear hst g
          generalize lenO x = z at *
          go_wp2_with (go_at_call 70; refine (HLn.out _).mono ?_; rintro e w2 ⟨rfl, hb2⟩; obtain ⟨o1, o2, o3⟩ := op_cells (N := wr.heap.size) hb2 (by simp))
          have hst := Lib.hid (HS.out _ (below_next ((hrl.below).alloc hbs _) hb2 (by simp; omega)))
          go_roundw
          case rel => exact ⟨k + 1, _, _, by omega, by go_num, rfl, rfl, by omega, by omega, by omega, by omega, hst.out⟩
          case measure => simp [intOf]; omega
        · obtain ⟨a1, a3, a2⟩ := kOf_not g
          have hf := Lib.hid (show chk9 l = 90 by unfold chk9; rw [lens_bad hxm g])
          have hz0 := @lenO_nil x
          have hk : x.k = 1 ∨ x.k = 3 ∨ x.k = 2 ∨ (x.k ≠ 1 ∧ x.k ≠ 3 ∧ x.k ≠ 2) := by omega
          have hn : (1 ≤ x.n ∧ x.n ≤ 1000) ∨ x.n = 0 ∨ (x.n < 0) ∨ (1 ≤ x.n ∧ 1000 < x.n) := by omega
          have hzz : 0 < lenO x ∨ lenO x ≤ 0 := by omega
          clear g
          generalize lenO x = z at *
          by_cases he : x.t.toList = []
          · have hz1 := hz0 he
            have he' : (!x.t.toList.isEmpty) = false := by simp [he]
            clear hz0 hzz
            rcases hk with k1 | k1 | k1 | ⟨k1, k2, k3⟩ <;> rcases hn with ⟨n1, n2⟩ | n1 | n1 | ⟨n1, n2⟩
            all_goals first
              | (exfalso; apply a1; refine ⟨?_, ?_, ?_, ?_⟩ <;> first | assumption | omega)
              | (exfalso; apply a3; refine ⟨?_, ?_, ?_, ?_⟩ <;> first | assumption | omega)
              | (clear a1 a2 a3
                 subst hz1
                 go_wp2_with (go_at_call 70; refine (HLn.out _).mono ?_; rintro e w2 ⟨rfl, hb2⟩; obtain ⟨o1, o2, o3⟩ := op_cells (N := wr.heap.size) hb2 (by simp))
                 go_ret
                 exact num_fin hf.out.symm (below_next ((hrl.below).alloc hbs _) hb2 (by simp; omega))
                 skip)
          · have he' : (!x.t.toList.isEmpty) = true := by simp [he]
            clear hz0
            rcases hk with k1 | k1 | k1 | ⟨k1, k2, k3⟩ <;> rcases hn with ⟨n1, n2⟩ | n1 | n1 | ⟨n1, n2⟩ <;> rcases hzz with z1 | z1
            all_goals first
              | (exfalso; apply a2; refine ⟨?_, ?_, ?_⟩ <;> first | assumption | omega)
              | (clear a1 a2 a3
                 go_wp2_with (go_at_call 70; refine (HLn.out _).mono ?_; rintro e w2 ⟨rfl, hb2⟩; obtain ⟨o1, o2, o3⟩ := op_cells (N := wr.heap.size) hb2 (by simp))
                 go_ret
                 exact num_fin hf.out.symm (below_next ((hrl.below).alloc hbs _) hb2 (by simp; omega))
                 skip)
      · have hkn : l.take k = l := List.take_of_length_le (by rw [HL.out]; omega)
        have ho := hrl.okk
        have eb := hrl.eb
        have et := hrl.et
        rw [hkn] at ho eb et
        have hbb := hrl.below
        have hl : ¬ 3000 < l.length := by rw [HL.out]; exact hmany
        clear hrl hkn
        by_cases h1 : 1000 < b
        · have hf := Lib.hid (show chk9 l = 91 by unfold chk9; rw [lens_big hl ho (.inl (by rw [← eb]; exact h1))])
          clear ho eb et
          go_wp2
          go_ret
          exact num_fin hf.out.symm hbb
        · by_cases h2 : 1000 < t
          · have hf := Lib.hid (show chk9 l = 91 by unfold chk9; rw [lens_big hl ho (.inr (by rw [← et]; exact h2))])
            clear ho eb et
            go_wp2
            go_ret
            exact num_fin hf.out.symm hbb
          · have hf := Lib.hid (show chk9 l = 0 by unfold chk9; rw [lens_ok hl ho (by rw [← eb, ← et]; omega)])
            clear ho eb et
            go_wp2
            go_ret
            exact num_fin hf.out.symm hbb
theorem chk9_cases (l : List Opn) : (chk9 l = 90 ∧ baseOf l = (0, 90)) ∨ (chk9 l = 91 ∧ baseOf l = (0, 91)) ∨ (chk9 l = 0 ∧ l.length ≤ 3000 ∧ (∀ x ∈ l, kOf x ≠ 0) ∧ sumOf opB l ≤ 1000 ∧ sumOf opT l ≤ 1000 ∧ baseOf l = (sumOf opB l, 0)) := by
  by_cases h1 : 3000 < l.length
  · exact .inl (by unfold chk9 baseOf; rw [lens_many h1]; exact ⟨rfl, rfl⟩)
  · by_cases h2 : ∀ x ∈ l, kOf x ≠ 0
    · by_cases h3 : 1000 < sumOf opB l ∨ 1000 < sumOf opT l
      · exact .inr (.inl (by unfold chk9 baseOf; rw [lens_big h1 h2 h3]; exact ⟨rfl, rfl⟩))
      · exact .inr (.inr (by unfold chk9 baseOf; rw [lens_ok h1 h2 h3]; exact ⟨rfl, by omega, h2, by omega, by omega, rfl⟩))
    · obtain ⟨x, hx, h⟩ : ∃ x, x ∈ l ∧ kOf x = 0 := by
        refine Classical.byContradiction fun h => h2 fun x hx h3 => h ⟨x, hx, h3⟩
      exact .inl (by unfold chk9 baseOf; rw [lens_bad hx h]; exact ⟨rfl, rfl⟩)
theorem opB_n {x : Opn} (h : kOf x ≠ 0) : opB x = x.n ∧ 0 ≤ x.n := by
  unfold opB
  rcases kOf_cases x with ⟨g, g1, g2, g3, g4⟩ | ⟨g, g1, g2, g3, g4⟩ | ⟨g, g1, g2, g3⟩ | g
  · rw [if_pos (.inl g)]; exact ⟨rfl, by omega⟩
  · rw [if_pos (.inr g)]; exact ⟨rfl, by omega⟩
  · rw [if_neg (by rw [g]; decide), g2]; exact ⟨rfl, by omega⟩
  · exact absurd g h
theorem sumOf_nonneg (f : Opn → Int) : ∀ l : List Opn, (∀ x ∈ l, 0 ≤ f x) → 0 ≤ sumOf f l
  | [], _ => by simp [sumOf]
  | x :: l, h => by
    have h1 := h x (by simp)
    have h2 := sumOf_nonneg f l fun y hy => h y (by simp [hy])
    simp only [sumOf]
    omega
theorem sumOf_take_le (f : Opn → Int) (l : List Opn) (k : Nat) (h : ∀ x ∈ l, 0 ≤ f x) : sumOf f (l.take k) ≤ sumOf f l := by
  have e : sumOf f l = sumOf f (l.take k) + sumOf f (l.drop k) := by rw [← sumOf_append, List.take_append_drop]
  have := sumOf_nonneg f (l.drop k) fun x hx => h x (List.mem_of_mem_drop hx)
  omega
theorem rtwo_of {p : Int × Int} {a b : Int} {w w' : World} (h : p = (a, b)) (hb : Below w.heap.size w w') : Two_ p w (.returned (.tuple #[.int .i64 a, .int .i64 b])) w' := by rw [h]; exact ⟨rfl, hb⟩
set_option maxRecDepth 100000 in
set_option maxHeartbeats 4000000 in
theorem rbase_any (A : Option Addr) (n c B : Nat) (l : List Opn) (w : World) (hr : Reads w B 3 A n (opRows l)) (hB : B ≤ w.heap.size) (hn : n ≤ 100000000000) (hz : ∀ r ∈ l, r.t.size ≤ 10000000000) :
    Calls Try.prog 75 #[.slice A n c] w (Two_ (baseOf l) w) := by
  have HL := Lib.hid (opRows_len hr)
  have h1 := rcheck9_any A n c B l w hr hB hn hz
  rcases chk9_cases l with ⟨e, hb⟩ | ⟨e, hb⟩ | ⟨e, hl, ho, hs1, _, hb⟩
  · rw [e] at h1
    have H1 := Lib.hid h1
    have HB := Lib.hid hb
    clear h1 hb e
    go_enter Try.func75, Try.ntmps75
    go_wp2_with (go_at_call 110; refine (H1.out).mono ?_; rintro e w2 ⟨rfl, hb2⟩)
    go_ret2
    exact rtwo_of HB.out hb2
  · rw [e] at h1
    have H1 := Lib.hid h1
    have HB := Lib.hid hb
    clear h1 hb e
    go_enter Try.func75, Try.ntmps75
    go_wp2_with (go_at_call 110; refine (H1.out).mono ?_; rintro e w2 ⟨rfl, hb2⟩)
    go_ret2
    exact rtwo_of HB.out hb2
  · rw [e] at h1
    have H1 := Lib.hid h1
    have HB := Lib.hid hb
    have HO := Lib.hid ho
    clear h1 hb e ho
    go_enter Try.func75, Try.ntmps75
    go_wp2_with (go_at_call 110; refine (H1.out).mono ?_; rintro e w2 ⟨rfl, hb2⟩)
    go_loop [5, 6] (fun s i => ∃ k : Nat, k ≤ n ∧ i = .int .i64 k ∧ s = .int .i64 (sumOf opB (l.take k))) (fun _ i => n - (intOf i).toNat)
    case atStart => exact ⟨0, Nat.zero_le _, rfl, rfl⟩
    case round =>
      obtain ⟨k, hk, rfl, rfl⟩ := hrel
      by_cases hlt : k < n
      · obtain ⟨ad, p, x, rfl, hp, hbk, hx, p1, p2, p3⟩ := op_at ((hr.more hB).below hb2) hlt
        have hk0 := HO.out x (List.mem_of_getElem? hx.out)
        obtain ⟨hxb, hx0⟩ := opB_n hk0
        have hnn : ∀ y ∈ l, 0 ≤ opB y := fun y hy => by obtain ⟨h1, h2⟩ := opB_n (HO.out y hy); omega
        have h5 := sumOf_take_le opB l (k + 1) hnn
        have h6 := sumOf_nonneg opB (l.take k) fun y hy => hnn y (List.mem_of_mem_take hy)
        rw [sumOf_snoc _ hx.out, hxb] at h5
        have hst := Lib.hid (show sumOf opB (l.take (k + 1)) = sumOf opB (l.take k) + x.n by rw [sumOf_snoc _ hx.out, hxb])
        clear hnn hk0 hxb
        generalize sumOf opB (l.take k) = s at *
        go_wp2
        go_round
        case rel => exact ⟨k + 1, by omega, by go_num, by rw [hst.out]⟩
        case measure => simp [intOf]; omega
      · have hkn : l.take k = l := List.take_of_length_le (by rw [HL.out]; omega)
        rw [hkn]
        go_wp2
        go_ret2
        exact rtwo_of HB.out hb2
end Go.Proofs.Ytdhpbfmamkndjaa.Doc
