/- The walk of the law TextBack. -/
import Derived.Test.YtdngjneihjhnkaaTextK
namespace Go.Proofs.Ytdngjneihjhnkaa.Text
open Go.RowKit Ox
set_option linter.unusedVariables false
set_option linter.unusedSimpArgs false

theorem back_bytes {s : ByteArray} {l : List Int} (hp : pts s.data.toList = some l) : (⟨(txt l).toArray⟩ : ByteArray) = s := by
  rw [pts_back hp]
theorem back_cat {s : ByteArray} {l : List Int} (hp : pts s.data.toList = some l) (k : Nat) : (⟨(txt (l.take k)).toArray⟩ : ByteArray) ++ ⟨(txt (l.drop k)).toArray⟩ = s := by
  have h := back_bytes hp
  rw [← h]
  conv => rhs; rw [← List.take_append_drop k l, txt_append]
  apply ByteArray.ext
  simp
theorem len_txt {l : List Int} (h : ∀ v ∈ l, isPt v = true) : lenOf (txt l) = l.length := by
  unfold lenOf
  rw [pts_txt h]
theorem textOf_all {l : List Int} (h : ∀ v ∈ l, isPt v = true) : textOf l = some (txt l) := by
  unfold textOf
  rw [if_pos (List.all_eq_true.2 h)]
/-- where the cut lies -/
theorem cut_place (x : Int) (n : Nat) (h0 : 0 ≤ x) : ∃ k : Nat, Int.tmod x ((n : Int) + 1) = k ∧ k ≤ n := by
  have h1 := Int.tmod_nonneg ((n : Int) + 1) h0
  have h2 := Int.tmod_lt_of_pos x (show (0 : Int) < (n : Int) + 1 by omega)
  exact ⟨(Int.tmod x ((n : Int) + 1)).toNat, by omega, by omega⟩
def Lens (s : ByteArray) (n : Int) : Prop := ∀ w, Calls Try.prog 12 #[.string s] w (Num n w)
def Cutn (s : ByteArray) (a b : Int) (t : ByteArray) : Prop := ∀ w, Calls Try.prog 17 #[.string s, .int .i64 a, .int .i64 b] w fun e w' => e = .returned (.tuple #[.string t, .int .i64 0]) ∧ Below w.heap.size w w'
set_option maxRecDepth 100000 in
theorem back_none (s : ByteArray) (at_ : Int) (w : World) (hs : s.size ≤ 10000000000000) (hp : pts s.data.toList = none) : Calls Try.prog 7 #[.string s, .int .i64 at_] w (Bool_ true w) := by
  have hP := fun w => points_any s w hs
  have hL := fun w => len_any s w hs
  have hn : lenOf s.data.toList = -1 := by unfold lenOf; rw [hp]
  rw [hp] at hP
  rw [hn] at hL
  have HP := Lib.hid hP
  have HL := Lib.hid hL
  clear hP hL hp hn
  go_enter Try.func7, Try.ntmps7
  go_wp2_with (first
    | (go_at_call 9; refine (HP.out _).mono ?_; rintro e w1 ⟨hb1, rfl⟩; have hs1 := hb1.size)
    | (go_at_call 12; refine (HL.out _).mono ?_; rintro e w2 ⟨rfl, hb2⟩; have hs2 := hb2.size)
    | (go_at_call 14; refine (live_any _).mono ?_; rintro e w3 ⟨rfl, hb3⟩; have hs3 := hb3.size))
  go_ret
  exact bool_of rfl (below_next (below_next hb1 hb2 hs1) hb3 (by omega))
set_option maxRecDepth 100000 in
theorem back_walk (s sa sb : ByteArray) (at_ x : Int) (n k : Nat) (l : List Int) (w : World) (hn : l.length = n) (hn2 : n ≤ 10000000000000) (hcat : sa ++ sb = s) (hs : s.size ≤ 10000000000000)
    (hP : ∀ w, Calls Try.prog 9 #[.string s] w fun e w' => Below w.heap.size w w' ∧ ∃ v, e = .returned (.tuple #[v, .bool true]) ∧ w'.ownsRow w.heap.size 3 1 v n (ints l))
    (hT : ∀ (A : Option Addr) (c B : Nat) w, Reads w B 1 A n (ints l) → B ≤ w.heap.size → Calls Try.prog 15 #[.slice A n c] w fun e w' => e = .returned (.tuple #[.string s, .bool true]) ∧ Below w.heap.size w w')
    (hL : Lens s n) (hLa : Lens sa k) (hLb : Lens sb ((n : Int) - k)) (hCa : Cutn s 0 k sa) (hCb : Cutn s k n sb) (hk : k ≤ n) (hkx : Int.tmod x ((n : Int) + 1) = k) (hx : (0 ≤ at_ ∧ x = at_) ∨ (at_ < 0 ∧ x = -(at_ + 1))) (hlo : -9223372036854775808 ≤ at_) (hhi : at_ ≤ 9223372036854775807) :
    Calls Try.prog 7 #[.string s, .int .i64 at_] w (Bool_ true w) := by
  have HP := Lib.hid hP
  have HT := Lib.hid hT
  have HL := Lib.hid hL
  have HLa := Lib.hid hLa
  have HLb := Lib.hid hLb
  have HCa := Lib.hid hCa
  have HCb := Lib.hid hCb
  clear hP hT hL hLa hLb hCa hCb
  have hsab : sa.size + sb.size ≤ 10000000000000 := by rw [← ByteArray.size_append, hcat]; exact hs
  have e5 : (k : Int) + ((n : Int) - k) = n := by omega
  rcases hx with ⟨h0, rfl⟩ | ⟨h0, rfl⟩
  all_goals
    go_enter Try.func7, Try.ntmps7
    go_wp2_with (first
      | (go_at_call 9; refine (HP.out _).mono ?_; rintro e w1 ⟨hb1, v1, rfl, ho1⟩; obtain ⟨A1, c1, rfl, hnc1, hcm1, hrd1, _⟩ := own_slice ho1; have hs1 := hb1.size; have H1 := Lib.hid hrd1; clear ho1 hrd1)
      | (go_at_call 15; refine (HT.out _ _ _ _ H1.out (Nat.le_refl _)).mono ?_; rintro e w2 ⟨rfl, hb2⟩; have hs2 := hb2.size)
      | (go_at_call 12; refine (HL.out _).mono ?_; rintro e w3 ⟨rfl, hb3⟩; have hs3 := hb3.size))
  all_goals
    go_at_call 17
    refine (HCa.out _).mono ?_
    rintro e w4 ⟨rfl, hb4⟩
    have hs4 := hb4.size
    go_wp2_with (go_at_call 17; refine (HCb.out _).mono ?_; rintro e w5 ⟨rfl, hb5⟩; have hs5 := hb5.size)
    go_at_call 12
    refine (HLa.out _).mono ?_
    rintro e w6 ⟨rfl, hb6⟩
    have hs6 := hb6.size
    go_wp2_with (go_at_call 14; refine (live_any _).mono ?_; rintro e w9 ⟨rfl, hb9⟩; have hs9 := hb9.size)
    go_at_call 12
    refine (HLa.out _).mono ?_
    rintro e w7 ⟨rfl, hb7⟩
    have hs7 := hb7.size
    go_wp2_with (go_at_call 14; refine (live_any _).mono ?_; rintro e w9 ⟨rfl, hb9⟩; have hs9 := hb9.size)
    go_at_call 12
    refine (HLb.out _).mono ?_
    rintro e w8 ⟨rfl, hb8⟩
    have hs8 := hb8.size
    go_wp2_with (go_at_call 14; refine (live_any _).mono ?_; rintro e w9 ⟨rfl, hb9⟩; have hs9 := hb9.size)
    go_ret
    exact bool_of rfl (below_next (below_next (below_next (below_next (below_next (below_next (below_next (below_next hb1 hb2 hs1) hb3 (by omega)) hb4 (by omega)) hb5 (by omega)) hb6 (by omega)) hb7 (by omega)) hb8 (by omega)) hb9 (by omega))
theorem back_law (s : ByteArray) (at_ : Int) (w : World) (hs : s.size ≤ 10000000000000) (hw : (Lit.int .i64 at_).wf = true) : Calls Try.prog 7 #[.string s, .int .i64 at_] w (Bool_ true w) := by
  have hr : -9223372036854775808 ≤ at_ ∧ at_ ≤ 9223372036854775807 := by simpa [Lit.wf, IntKind.min, IntKind.max, IntKind.signed, IntKind.bits] using hw
  cases hp : pts s.data.toList with
  | none => exact back_none s at_ w hs hp
  | some l =>
    have hv := pts_valid hp
    have hll := pts_length_le hp
    have hsz : s.data.toList.length = s.size := by simp
    have hx : ∃ x, 0 ≤ x ∧ ((0 ≤ at_ ∧ x = at_) ∨ (at_ < 0 ∧ x = -(at_ + 1))) := by
      by_cases h : 0 ≤ at_
      · exact ⟨at_, h, .inl ⟨h, rfl⟩⟩
      · exact ⟨-(at_ + 1), by omega, .inr ⟨by omega, rfl⟩⟩
    obtain ⟨x, hx0, hx⟩ := hx
    obtain ⟨k, hk, hkn⟩ := cut_place x l.length hx0
    have hvt : ∀ v ∈ l.take k, isPt v = true := fun v h => hv v (List.mem_of_mem_take h)
    have hvd : ∀ v ∈ l.drop k, isPt v = true := fun v h => hv v (List.mem_of_mem_drop h)
    have hcat := back_cat hp k
    have hsz2 : (⟨(txt (l.take k)).toArray⟩ : ByteArray).size + (⟨(txt (l.drop k)).toArray⟩ : ByteArray).size = s.size := by rw [← ByteArray.size_append, hcat]
    refine back_walk s ⟨(txt (l.take k)).toArray⟩ ⟨(txt (l.drop k)).toArray⟩ at_ x l.length k l w rfl (by omega) hcat hs (fun w => ?_) (fun A c B w hr hB => ?_) (fun w => ?_) (fun w => ?_) (fun w => ?_) (fun w => ?_) (fun w => ?_) hkn hk hx hr.1 hr.2
    · have h := points_any s w hs
      rw [hp] at h
      exact h
    · have h := text_any A l.length c B l w hr hB (by omega)
      rw [textOf_all hv] at h
      refine h.mono ?_
      rintro e w' ⟨hb, rfl⟩
      exact ⟨by rw [back_bytes hp], hb⟩
    · have h := len_any s w hs
      unfold lenOf at h
      rw [hp] at h
      exact h
    · have h := len_any ⟨(txt (l.take k)).toArray⟩ w (by omega)
      have e : lenOf (⟨(txt (l.take k)).toArray⟩ : ByteArray).data.toList = k := by
        rw [show (⟨(txt (l.take k)).toArray⟩ : ByteArray).data.toList = txt (l.take k) by simp, len_txt hvt, List.length_take, Nat.min_eq_left hkn]
      rw [e] at h
      exact h
    · have h := len_any ⟨(txt (l.drop k)).toArray⟩ w (by omega)
      have e : lenOf (⟨(txt (l.drop k)).toArray⟩ : ByteArray).data.toList = (l.length : Int) - k := by
        rw [show (⟨(txt (l.drop k)).toArray⟩ : ByteArray).data.toList = txt (l.drop k) by simp, len_txt hvd, List.length_drop]
        omega
      rw [e] at h
      exact h
    · have h := cut_any s 0 k w hs
      rw [cut_good hp (by omega)] at h
      refine h.mono ?_
      rintro e w' ⟨rfl, hb⟩
      exact ⟨by simp, hb⟩
    · have h := cut_any s k l.length w hs
      rw [cut_good hp (by omega)] at h
      refine h.mono ?_
      rintro e w' ⟨rfl, hb⟩
      exact ⟨by simp, hb⟩
end Go.Proofs.Ytdngjneihjhnkaa.Text
