/- Contracts: Text of oxbowref01; Len, Cut, Compare, of package text and of oxbowref01. -/
import Derived.Test.YtdhpbfmamkndjaaTextH
import Derived.Lib.Bytealg
namespace Go.Proofs.Ytdhpbfmamkndjaa.Text
open Go.RowKit Ox
set_option linter.unusedVariables false
set_option linter.unusedSimpArgs false

theorem TxtRel.zero (l : List Int) (w : World) : TxtRel l w 0 (.slice none 0 0) w := ⟨World.ownsRow_nil _ _ _ _, Below.refl _ _, rfl, Nat.le_refl _⟩
set_option maxRecDepth 100000 in
theorem rtext_any (A : Option Addr) (n c B : Nat) (l : List Int) (w : World) (hr : Reads w B 1 A n (ints l)) (hB : B ≤ w.heap.size) (hn : n ≤ 10000000000000) :
    Calls Try.prog 101 #[.slice A n c] w (Txt (textOf l) w) := by
  have hln := Lib.hid (ints_len hr)
  go_enter Try.func101, Try.ntmps101
  go_wp2
  go_loopw [4, 5] (fun v i wr => ∃ k : Nat, k ≤ n ∧ i = .int .i64 k ∧ TxtRel l w k v wr) (fun _ i _ => n - (intOf i).toNat)
  case atStart => exact ⟨0, Nat.zero_le _, rfl, TxtRel.zero l w⟩
  case round =>
    obtain ⟨k, hk, rfl, hrl⟩ := hrel
    have hle := hrl.le
    by_cases hlt : k < n
    · have hr2 := hr.more hB
      obtain ⟨ad, x, rfl, hbk, hx, hc⟩ := int_at (hr2.below hrl.below) hlt
      clear hr hr2
      by_cases hp : isPt x = true
      · have hsz := psz_bd x
        have hel := enc_length x
        have hEL := Lib.hid hel
        have hel2 : (enc x).length ≤ 4 := by omega
        clear hel hsz
        have hbs := hrl.below.size
        have hcb : ∀ w1, Below wr.heap.size wr w1 → w1.cell? (ad.add k) = some (.int .i64 x) := fun w1 h => (h.cell (by rw [block_of_add]; omega)).trans hc
        go_wp2_with (first
          | (go_at_call 119; refine (point_any _ _).mono ?_; rintro e w' ⟨rfl, rfl⟩)
          | (go_at_call 120; refine (bytes_any _ _ hp).mono ?_; rintro e w1 ⟨rfl, hb1⟩)
          | (at_builtin; refine wpList_pushStr (.tmp 18) (.tmp 23) 107 9 5 rfl rfl Try.underlying107 Try.underlying9 info_u8 rfl rfl (own_below hrl.own hb1) (below_next hrl.below hb1 hbs) (Nat.le_refl _) (Nat.le_trans hbs hb1.size) (show _ + (enc x).length ≤ _ by omega) ?_))
        intro v2 w2 ho2 hb2 _
        have hst := hrl.step hx.out hp (by simpa using ho2) hb2
        go_wp2
        go_roundw
        case rel => exact ⟨k + 1, by omega, by go_num, hst⟩
        case measure => simp [intOf]; omega
      · have hp' : isPt x = false := by simpa using hp
        clear hp
        go_wp2_with (first
          | (go_at_call 119; refine (point_any _ _).mono ?_; rintro e w' ⟨rfl, rfl⟩))
        go_ret2
        exact hrl.bad hx.out hp' hrl.below
    · obtain ⟨A1, c1, n1, hv, hrd⟩ := hrl.slice (by rw [hln.out]; omega)
      rw [hv]
      go_wp2_with (refine wpList_toStr (.tmp 25) 107 9 5 rfl rfl Try.underlying107 Try.underlying9 Try.underlying5 rfl hrd ?_)
      go_ret2
      exact hrl.done (by rw [hln.out]; omega)

/-- how many code points; -1: it is not valid -/
def lenOf (s : Bytes) : Int := match pts s with | some l => (l.length : Int) | none => -1
def Num (x : Int) (w : World) (e : Ending) (w' : World) : Prop := e = .returned (.int .i64 x) ∧ Below w.heap.size w w'
set_option maxRecDepth 100000 in
theorem len_any (s : ByteArray) (w : World) (hs : s.size ≤ 10000000000000) : Calls Try.prog 67 #[.string s] w (Num (lenOf s.data.toList) w) := by
  unfold lenOf
  have hc := points_any s w hs
  cases hp : pts s.data.toList with
  | none =>
    rw [hp] at hc
    have HC := Lib.hid hc
    clear hc hp
    go_enter Try.func67, Try.ntmps67
    go_wp2_with (go_at_call 78; refine (HC.out).mono ?_; rintro e w1 ⟨hb, rfl⟩)
    go_ret
    exact ⟨rfl, hb⟩
  | some l =>
    rw [hp] at hc
    have HC := Lib.hid hc
    clear hc hp
    go_enter Try.func67, Try.ntmps67
    go_wp2_with (go_at_call 78; refine (HC.out).mono ?_; rintro e w1 ⟨hb, v, rfl, ho⟩; obtain ⟨A, c, rfl, hnc, hcm, hrd, _⟩ := own_slice ho)
    go_ret
    exact ⟨rfl, hb⟩
set_option maxRecDepth 100000 in
theorem rlen_any (s : ByteArray) (w : World) (hs : s.size ≤ 10000000000000) : Calls Try.prog 70 #[.string s] w (Num (lenOf s.data.toList) w) := by
  unfold lenOf
  have hc := rpoints_any s w hs
  cases hp : pts s.data.toList with
  | none =>
    rw [hp] at hc
    have HC := Lib.hid hc
    clear hc hp
    go_enter Try.func70, Try.ntmps70
    go_wp2_with (go_at_call 76; refine (HC.out).mono ?_; rintro e w1 ⟨hb, rfl⟩)
    go_ret
    exact ⟨rfl, hb⟩
  | some l =>
    rw [hp] at hc
    have HC := Lib.hid hc
    clear hc hp
    go_enter Try.func70, Try.ntmps70
    go_wp2_with (go_at_call 76; refine (HC.out).mono ?_; rintro e w1 ⟨hb, v, rfl, ho⟩; obtain ⟨A, c, rfl, hnc, hcm, hrd, _⟩ := own_slice ho)
    go_ret
    exact ⟨rfl, hb⟩

/-- a part, and the error's number -/
def cutOf (s : Bytes) (a b : Int) : Bytes × Int := match pts s with
  | none => ([], 10)
  | some l => if a < 0 ∨ b < a ∨ (l.length : Int) < b then ([], 1) else (txt ((l.take b.toNat).drop a.toNat), 0)
def StrNum (p : Bytes × Int) (w : World) (e : Ending) (w' : World) : Prop := e = .returned (.tuple #[.string ⟨p.1.toArray⟩, .int .i64 p.2]) ∧ Below w.heap.size w w'
theorem cut_bad {s : Bytes} {l : List Int} (hp : pts s = some l) {a b : Int} (h : a < 0 ∨ b < a ∨ (l.length : Int) < b) : cutOf s a b = ([], 1) := by
  unfold cutOf; rw [hp]; simp only; rw [if_pos h]
theorem cut_good {s : Bytes} {l : List Int} (hp : pts s = some l) {a b : Int} (h : ¬ (a < 0 ∨ b < a ∨ (l.length : Int) < b)) : cutOf s a b = (txt ((l.take b.toNat).drop a.toNat), 0) := by
  unfold cutOf; rw [hp]; simp only; rw [if_neg h]
theorem cut_ints {w : World} {B n x y : Nat} {A A' : Option Addr} {l : List Int} (h : Reads w B 1 A n (ints l)) (hxy : x ≤ y) (hy : y ≤ n) (hA : x < y → A' = A.map (fun a => a.add x)) :
    Reads w B 1 A' (y - x) (ints ((l.take y).drop x)) := by
  have h2 := (h.take hy).cut (k := x) (cap := y) hxy (Nat.le_refl _)
  simp only [Nat.mul_one] at h2
  have e : (List.take y (ints l)).drop x = ints ((l.take y).drop x) := by simp [ints, List.map_take, List.map_drop]
  rw [e] at h2
  by_cases hlt : x < y
  · rw [if_neg (by omega)] at h2
    rw [hA hlt]
    exact h2
  · exact ⟨h2.1, fun hn => absurd hn (by omega)⟩
theorem textOf_part {l : List Int} (h : ∀ v ∈ l, isPt v = true) (x y : Nat) : textOf ((l.take y).drop x) = some (txt ((l.take y).drop x)) := by
  unfold textOf
  rw [if_pos (List.all_eq_true.2 fun v hv => h v (List.mem_of_mem_take (List.mem_of_mem_drop hv)))]
set_option maxRecDepth 100000 in
theorem cut_any (s : ByteArray) (a b : Int) (w : World) (hs : s.size ≤ 10000000000000) : Calls Try.prog 109 #[.string s, .int .i64 a, .int .i64 b] w (StrNum (cutOf s.data.toList a b) w) := by
  have hc := points_any s w hs
  cases hp : pts s.data.toList with
  | none =>
    have hf : cutOf s.data.toList a b = ([], 10) := by unfold cutOf; rw [hp]
    rw [hf]
    rw [hp] at hc
    have HC := Lib.hid hc
    clear hc hp hf
    go_enter Try.func109, Try.ntmps109
    go_wp2_with (go_at_call 78; refine (HC.out).mono ?_; rintro e w1 ⟨hb, rfl⟩)
    go_ret2
    exact ⟨rfl, hb⟩
  | some l =>
    have hll := pts_length_le hp
    have hsz : s.data.toList.length = s.size := by simp
    have hv := pts_valid hp
    have HV := Lib.hid hv
    rw [hp] at hc
    have HC := Lib.hid hc
    clear hc hv
    by_cases hr : a < 0 ∨ b < a ∨ (l.length : Int) < b
    · rw [cut_bad hp hr]
      clear hp
      by_cases h1 : a < 0
      · clear hr
        go_enter Try.func109, Try.ntmps109
        go_wp2_with (go_at_call 78; refine (HC.out).mono ?_; rintro e w1 ⟨hb, v, rfl, ho⟩; obtain ⟨A, c, rfl, hnc, hcm, hrd, _⟩ := own_slice ho)
        go_ret2
        exact ⟨rfl, hb⟩
      · by_cases h2 : b < a
        · clear hr
          go_enter Try.func109, Try.ntmps109
          go_wp2_with (go_at_call 78; refine (HC.out).mono ?_; rintro e w1 ⟨hb, v, rfl, ho⟩; obtain ⟨A, c, rfl, hnc, hcm, hrd, _⟩ := own_slice ho)
          go_ret2
          exact ⟨rfl, hb⟩
        · have h3 : (l.length : Int) < b := by omega
          clear hr
          go_enter Try.func109, Try.ntmps109
          go_wp2_with (go_at_call 78; refine (HC.out).mono ?_; rintro e w1 ⟨hb, v, rfl, ho⟩; obtain ⟨A, c, rfl, hnc, hcm, hrd, _⟩ := own_slice ho)
          go_ret2
          exact ⟨rfl, hb⟩
    · rw [cut_good hp hr]
      clear hp
      have g1 : 0 ≤ a := by omega
      have g2 : a ≤ b := by omega
      have g3 : b ≤ (l.length : Int) := by omega
      clear hr
      obtain ⟨x, rfl⟩ := Int.eq_ofNat_of_zero_le g1
      obtain ⟨y, rfl⟩ := Int.eq_ofNat_of_zero_le (show 0 ≤ b by omega)
      simp only [Int.toNat_natCast]
      go_enter Try.func109, Try.ntmps109
      go_wp2_with (go_at_call 78; refine (HC.out).mono ?_; rintro e w1 ⟨hb, v, rfl, ho⟩; obtain ⟨A, c, rfl, hnc, hcm, hrd, _⟩ := own_slice ho)
      all_goals
        go_at_call 66
        refine (text_any _ _ _ _ _ _ (cut_ints hrd (show x ≤ y by omega) (show y ≤ l.length by omega) (fun h => by first | exact rfl | (exfalso; omega))) (Nat.le_refl _) (by omega)).mono ?_
        rw [textOf_part HV.out]
        rintro e w2 ⟨hb2, rfl⟩
        go_wp2
        go_ret2
        exact ⟨rfl, below_next hb hb2 hb.size⟩
end Go.Proofs.Ytdhpbfmamkndjaa.Text
