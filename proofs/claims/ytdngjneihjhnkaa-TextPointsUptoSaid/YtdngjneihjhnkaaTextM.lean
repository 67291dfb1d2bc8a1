/- The walk of the law TextPoints. -/
import Derived.Test.YtdngjneihjhnkaaTextK
namespace Go.Proofs.Ytdngjneihjhnkaa.Text
open Go.RowKit Ox
set_option linter.unusedVariables false
set_option linter.unusedSimpArgs false

/-- the loop that writes -1 into what came out -/
structure OutRel (w w1 : World) (A : Option Addr) (c n : Nat) (v2 : Value) (l : List Int) (wr : World) : Prop where
  own1 : ∃ xs, wr.ownsRow w.heap.size 3 1 (.slice A n c) n xs
  own2 : OwnI wr w1.heap.size v2 l
  below : Below w.heap.size w wr
  lt : ∀ ad, A = some ad → ad.block < w1.heap.size
variable {w w1 wr : World} {A : Option Addr} {c n : Nat} {v2 : Value} {l : List Int}
theorem OutRel.at_ (h : OutRel w w1 A c n v2 l wr) {k : Nat} (hk : k < n) (u : Value) : ∃ ad x, A = some ad ∧ wr.cell? (ad.add k) = some x ∧ wr.frozen? (ad.add k) = false ∧ OutRel w w1 A c n v2 l (wr.setCell (ad.add k) u) := by
  obtain ⟨xs, ho⟩ := h.own1
  obtain ⟨g, cap, hv, hb, hlt⟩ := ho.form (by omega)
  injection hv with e1 e2 e3
  subst e1
  subst e3
  have hc := ho.cellAt k (by omega)
  have hlen := ho.1
  have hx : xs[k]? = some (xs[k]'(by omega)) := List.getElem?_eq_getElem (by omega)
  have hst := ho.stored k u
  refine ⟨⟨g, 0, none⟩, xs[k]'(by omega), rfl, ?_, ?_, ?_⟩
  · rw [Addr.add_lit, Nat.zero_add, hc, hx]
  · rw [Addr.add_lit, Nat.zero_add]; exact ho.frozenAt k
  · rw [Addr.add_lit, Nat.zero_add]
    refine ⟨⟨_, hst.1⟩, h.own2.kept hst.2 ?_, h.below.setCell (p := ⟨g, k, none⟩) hb u, h.lt⟩
    refine .inr fun e => ?_
    have h1 := (h.own2.lt g e).1
    have h2 := h.lt _ rfl
    simp at h2
    omega
theorem beq_self_ints (l : List Int) : (l == l) = true := beq_self_eq_true l
set_option maxRecDepth 100000 in
theorem points_law (s : ByteArray) (w : World) (hs : s.size ≤ 10000000000000) : Calls Try.prog 3 #[.string s] w (Bool_ true w) := by
  have hP := fun w => points_any s w hs
  have hR := fun w => rpoints_any s w hs
  cases hp : pts s.data.toList with
  | none =>
    rw [hp] at hP hR
    have HP := Lib.hid hP
    have HR := Lib.hid hR
    clear hP hR hp
    go_enter Try.func3, Try.ntmps3
    go_wp2_with (first
      | (go_at_call 9; refine (HP.out _).mono ?_; rintro e w1 ⟨hb1, rfl⟩)
      | (go_at_call 10; refine (HR.out _).mono ?_; rintro e w2 ⟨hb2, rfl⟩)
      | (go_at_call 11; refine (same_any _ _ _ _ 0 _ _ 0 [] [] _ Reads.none_ Reads.none_ (Nat.zero_le _) (Nat.zero_le _) (by decide) (by decide)).mono ?_; rintro e w3 ⟨rfl, hb3⟩))
    refine wp_loop_rounds 1 ?_
    rw [rounds_succ]
    go_wp2_with (first
      | (go_at_call 9; refine (HP.out _).mono ?_; rintro e w4 ⟨hb4, rfl⟩)
      | (go_at_call 11; refine (same_any _ _ _ _ 0 _ _ 0 [] [] _ Reads.none_ Reads.none_ (Nat.zero_le _) (Nat.zero_le _) (by decide) (by decide)).mono ?_; rintro e w5 ⟨rfl, hb5⟩)
      | (go_at_call 12; refine (len_any _ _ hs).mono ?_; rintro e w6 ⟨rfl, hb6⟩)
      | (go_at_call 13; refine (rlen_any _ _ hs).mono ?_; rintro e w7 ⟨rfl, hb7⟩)
      | (go_at_call 14; refine (live_any _).mono ?_; rintro e w8 ⟨rfl, hb8⟩))
    go_ret
    exact bool_of rfl (below_next (below_next (below_next (below_next (below_next (below_next (below_next hb1 hb2 hb1.size) hb3 (by have := hb1.size; have := hb2.size; omega)) hb4 (by have := hb1.size; have := hb2.size; have := hb3.size; omega)) hb5 (by have := hb1.size; have := hb2.size; have := hb3.size; have := hb4.size; omega)) hb6 (by have := hb1.size; have := hb2.size; have := hb3.size; have := hb4.size; have := hb5.size; omega)) hb7 (by have := hb1.size; have := hb2.size; have := hb3.size; have := hb4.size; have := hb5.size; have := hb6.size; omega)) hb8 (by have := hb1.size; have := hb2.size; have := hb3.size; have := hb4.size; have := hb5.size; have := hb6.size; have := hb7.size; omega))
  | some l =>
    have hll := pts_length_le hp
    have hsz : s.data.toList.length = s.size := by simp
    rw [hp] at hP hR
    have HP := Lib.hid hP
    have HR := Lib.hid hR
    have hll2 : l.length ≤ 10000000000000 := by omega
    clear hP hR hp hll hsz
    go_enter Try.func3, Try.ntmps3
    go_wp2_with (first
      | (go_at_call 9; refine (HP.out _).mono ?_; rintro e w1 ⟨hb1, v1, rfl, ho1⟩; obtain ⟨A1, c1, rfl, hnc1, hcm1, hrd1, _⟩ := own_slice ho1; have hs1 := hb1.size; have HO1 := Lib.hid ho1; have H1 := Lib.hid hrd1; clear ho1 hrd1)
      | (go_at_call 10; refine (HR.out _).mono ?_; rintro e w2 ⟨hb2, v2, rfl, ho2⟩; obtain ⟨A2, c2, rfl, hnc2, hcm2, hrd2, _⟩ := own_slice ho2; have hs2 := hb2.size; have HO2 := Lib.hid ho2; have H2 := Lib.hid hrd2; clear ho2 hrd2)
      | (go_at_call 11; refine (same_any _ _ _ _ _ _ _ _ l l _ (H1.out.below hb2) H2.out hs2 (Nat.le_refl _) hll2 hll2).mono ?_; rw [beq_self_ints]; rintro e w3 ⟨rfl, hb3⟩; have hs3 := hb3.size))
    have hlt1 : ∀ ad, A1 = some ad → ad.block < w1.heap.size := fun ad h => by
      subst h
      exact (HO1.out.lt ad.block rfl).2
    have hbw3 : Below w.heap.size w w3 := below_next (below_next hb1 hb2 hs1) hb3 (by omega)
    have h1 : OutRel w w1 A1 c1 l.length (.slice A2 l.length c2) l w3 := ⟨⟨_, own_below (own_below HO1.out hb2) hb3⟩, own_below HO2.out hb3, hbw3, hlt1⟩
    have H := Lib.hid h1
    clear h1
    go_loopw [7] (fun i wr => ∃ k : Nat, i = .int .i64 k ∧ k ≤ l.length ∧ OutRel w w1 A1 c1 l.length (.slice A2 l.length c2) l wr) (fun i _ => l.length - (intOf i).toNat)
    case atStart => exact ⟨0, rfl, Nat.zero_le _, H.out⟩
    case round =>
      obtain ⟨k, rfl, hk, hr⟩ := hrel
      by_cases hlt : k < l.length
      · obtain ⟨ad, x, rfl, hcell, hfr, hst⟩ := hr.at_ hlt (.int .i64 (-1))
        go_wp2
        go_roundw
        case rel => exact ⟨k + 1, by go_num, by omega, hst⟩
        case measure => simp [intOf]; omega
      · have hbr := hr.below.size
        have hrd2 := Reads.of_own hr.own2
        have H2r := Lib.hid hrd2
        clear hrd2
        go_wp2_with (first
          | (go_at_call 9; refine (HP.out _).mono ?_; rintro e w4 ⟨hb4, v4, rfl, ho4⟩; obtain ⟨A4, c4, rfl, hnc4, hcm4, hrd4, _⟩ := own_slice ho4; have hs4 := hb4.size; have H4 := Lib.hid hrd4; clear ho4 hrd4)
          | (go_at_call 11; refine (same_any _ _ _ _ _ _ _ _ l l _ H4.out (H2r.out.below hb4) (Nat.le_refl _) hs4 hll2 hll2).mono ?_; rw [beq_self_ints]; rintro e w5 ⟨rfl, hb5⟩; have hs5 := hb5.size)
          | (go_at_call 12; refine (len_any _ _ hs).mono ?_; rintro e w6 ⟨rfl, hb6⟩; have hs6 := hb6.size)
          | (go_at_call 13; refine (rlen_any _ _ hs).mono ?_; rintro e w7 ⟨rfl, hb7⟩; have hs7 := hb7.size)
          | (go_at_call 14; refine (live_any _).mono ?_; rintro e w8 ⟨rfl, hb8⟩; have hs8 := hb8.size))
        go_ret
        exact bool_of rfl (below_next (below_next (below_next (below_next (below_next hr.below hb4 hbr) hb5 (by omega)) hb6 (by omega)) hb7 (by omega)) hb8 (by omega))
end Go.Proofs.Ytdngjneihjhnkaa.Text
