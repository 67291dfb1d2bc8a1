/- Contracts of package text: isPoint, size, take; of oxbowref01: point. -/
import Derived.Test.YtdhpbfmamkndjaaProg
import Derived.Test.YtdhpbfmamkndjaaTx
import Derived.Test.YtdhpbfmamkndjaaBase
import Derived.Test.YtdhpbfmamkndjaaRegionB
import Derived.WalkKit
import Derived.Deep.QuietTactic
import Derived.BigQuiet
import Derived.WalkLawsBesides
import Derived.WalkSpells
import Derived.Handy
import Derived.Lib.Hide
namespace Go.Proofs.Ytdhpbfmamkndjaa.Text
open Go.RowKit Ox
set_option linter.unusedVariables false
set_option linter.unusedSimpArgs false


theorem isPoint_any (n : Int) (w : World) : Calls Try.prog 106 #[.int .i64 n] w fun e w' => e = .returned (.bool (isPt n)) ∧ w = w' := by
  by_cases h1 : 0 ≤ n <;> by_cases h2 : n ≤ 1114111 <;> by_cases h3 : n < 55296 <;>
  (go_enter Try.func106, Try.ntmps106
   go_wp2
   go_ret
   exact ⟨ret_bool (by rw [Bool.eq_iff_iff]; simp [isPt]; try omega), rfl⟩)
theorem point_any (n : Int) (w : World) : Calls Try.prog 119 #[.int .i64 n] w fun e w' => e = .returned (.bool (isPt n)) ∧ w = w' := by
  by_cases h1 : 0 ≤ n <;> by_cases h2 : n ≤ 1114111 <;> by_cases h3 : n < 55296 <;>
  (go_enter Try.func119, Try.ntmps119
   go_wp2
   go_ret
   exact ⟨ret_bool (by rw [Bool.eq_iff_iff]; simp [isPt]; try omega), rfl⟩)
theorem size_any (n : Int) (w : World) : Calls Try.prog 123 #[.int .i64 n] w fun e w' => e = .returned (.int .i64 (psz n)) ∧ w = w' := by
  go_enter Try.func123, Try.ntmps123
  go_wp2
  all_goals
    go_ret
    refine ⟨ret_int (by unfold psz; (repeat' split) <;> omega), rfl⟩

theorem at_bat (s : ByteArray) (i : Nat) (h : i < s.size) : ((s[i]'h).toNat : Int) = bat s.data.toList i := by
  unfold bat
  rw [List.getD_eq_getElem?_getD, List.getElem?_eq_getElem (by simpa using h)]
  rfl

theorem i64_or6 {x y : Int} (hx : 0 ≤ x) (hm : x % 64 = 0) (hb : x < 1073741824) (hy : 0 ≤ y) (hy' : y < 64) : bits .or .i64 x y = x + y :=
  bits_join .i64 32 (by decide) (fun n h0 h1 => by rw [IntKind.wrap_i64]; omega) 6 x y hx hm (by omega) hy hy' (by omega)
theorem cont6 {x y : Int} (hx : 0 ≤ x) (hb : x < 4194304) : bits .or .i64 (x * 64) (y % 64) = x * 64 + y % 64 :=
  i64_or6 (by omega) (by omega) (by omega) (by omega) (by omega)
theorem byte_bd (s : ByteArray) (i : Nat) (h : i < s.size) : 0 ≤ ((s[i]'h).toNat : Int) ∧ ((s[i]'h).toNat : Int) < 256 := by
  have := (s[i]'h).toNat_lt
  omega

def Took (v k : Int) (w : World) (e : Ending) (w' : World) : Prop := e = .returned (.tuple #[.int .i64 v, .int .i64 k]) ∧ w = w'
theorem took {v k a b : Int} {w : World} (h : (a, b) = vld v k) : Took (vld v k).1 (vld v k).2 w (.returned (.tuple #[.int .i64 a, .int .i64 b])) w := by rw [← h]; exact ⟨rfl, rfl⟩
set_option maxRecDepth 100000 in
theorem take_2 (s : ByteArray) (w : World) (h0 : 2 ≤ s.size) (h1 : ((s[0].toNat : Int) / 32 == 6) = true) (hs : s.size ≤ 140737488351232) (hc1 : ((s[1].toNat : Int) / 64 != 2) = false) :
    Calls Try.prog 112 #[.string s] w (Took (vld ((s[0].toNat : Int) % 32 * 64 + (s[1].toNat : Int) % 64) 2).1 (vld ((s[0].toNat : Int) % 32 * 64 + (s[1].toNat : Int) % 64) 2).2 w) := by
  have a0 := byte_bd s 0 (by omega)
  have a1 := byte_bd s 1 (by omega)
  have h1' : (s[0].toNat : Int) / 32 = 6 := by simpa using h1
  have q0 : 128 ≤ (s[0].toNat : Int) := by omega
  have e1 := cont6 (x := (s[0].toNat : Int) % 32) (y := (s[1].toNat : Int)) (by omega) (by omega)
  have b1 : 0 ≤ (s[0].toNat : Int) % 32 * 64 + (s[1].toNat : Int) % 64 ∧ (s[0].toNat : Int) % 32 * 64 + (s[1].toNat : Int) % 64 < 2048 := by omega
  generalize (s[0].toNat : Int) % 32 * 64 + (s[1].toNat : Int) % 64 = v1 at *
  obtain ⟨b1, c1⟩ := b1
  clear h1'
  go_enter Try.func112, Try.ntmps112
  go_wp2
  refine wp_loop_rounds 2 ?_
  repeat any_goals (rw [rounds_succ]; go_wp2_with (first | (go_at_call 123; refine (size_any _ _).mono ?_; rintro e w' ⟨rfl, rfl⟩) | (go_at_call 106; refine (isPoint_any _ _).mono ?_; rintro e w' ⟨rfl, rfl⟩)))
  all_goals (go_ret2; exact took (by simp_all [vld]))
set_option maxRecDepth 100000 in
theorem take_2s (s : ByteArray) (w : World) (h0 : 0 < s.size) (h0' : s.size < 2) (h1 : ((s[0].toNat : Int) / 32 == 6) = true) :
    Calls Try.prog 112 #[.string s] w (Took 0 0 w) := by
  have a0 := byte_bd s 0 (by omega)
  have h1' : (s[0].toNat : Int) / 32 = 6 := by simpa using h1
  have q0 : 128 ≤ (s[0].toNat : Int) := by omega
  clear h1'
  go_enter Try.func112, Try.ntmps112
  go_wp2
  all_goals (go_ret2; exact ⟨rfl, rfl⟩)
set_option maxRecDepth 100000 in
theorem take_2x1 (s : ByteArray) (w : World) (h0 : 2 ≤ s.size) (h1 : ((s[0].toNat : Int) / 32 == 6) = true) (hs : s.size ≤ 140737488351232) (hc1 : ((s[1].toNat : Int) / 64 != 2) = true) :
    Calls Try.prog 112 #[.string s] w (Took 0 0 w) := by
  have a0 := byte_bd s 0 (by omega)
  have a1 := byte_bd s 1 (by omega)
  have h1' : (s[0].toNat : Int) / 32 = 6 := by simpa using h1
  have q0 : 128 ≤ (s[0].toNat : Int) := by omega
  clear h1'
  go_enter Try.func112, Try.ntmps112
  go_wp2
  refine wp_loop_rounds 2 ?_
  repeat any_goals (rw [rounds_succ]; go_wp2_with (first | (go_at_call 123; refine (size_any _ _).mono ?_; rintro e w' ⟨rfl, rfl⟩) | (go_at_call 106; refine (isPoint_any _ _).mono ?_; rintro e w' ⟨rfl, rfl⟩)))
  all_goals (go_ret2; exact ⟨rfl, rfl⟩)
set_option maxRecDepth 100000 in
theorem take_3 (s : ByteArray) (w : World) (h0 : 3 ≤ s.size) (h1 : ((s[0].toNat : Int) / 16 == 14) = true) (hs : s.size ≤ 140737488351232) (hc1 : ((s[1].toNat : Int) / 64 != 2) = false) (hc2 : ((s[2].toNat : Int) / 64 != 2) = false) :
    Calls Try.prog 112 #[.string s] w (Took (vld (((s[0].toNat : Int) % 16 * 64 + (s[1].toNat : Int) % 64) * 64 + (s[2].toNat : Int) % 64) 3).1 (vld (((s[0].toNat : Int) % 16 * 64 + (s[1].toNat : Int) % 64) * 64 + (s[2].toNat : Int) % 64) 3).2 w) := by
  have a0 := byte_bd s 0 (by omega)
  have a1 := byte_bd s 1 (by omega)
  have a2 := byte_bd s 2 (by omega)
  have h1' : (s[0].toNat : Int) / 16 = 14 := by simpa using h1
  have q0 : 128 ≤ (s[0].toNat : Int) := by omega
  have g6 : ((s[0].toNat : Int) / 32 == 6) = false := by rw [beq_eq_false_iff_ne]; omega
  have e1 := cont6 (x := (s[0].toNat : Int) % 16) (y := (s[1].toNat : Int)) (by omega) (by omega)
  have b1 : 0 ≤ (s[0].toNat : Int) % 16 * 64 + (s[1].toNat : Int) % 64 ∧ (s[0].toNat : Int) % 16 * 64 + (s[1].toNat : Int) % 64 < 1024 := by omega
  generalize (s[0].toNat : Int) % 16 * 64 + (s[1].toNat : Int) % 64 = v1 at *
  have e2 := cont6 (x := v1) (y := (s[2].toNat : Int)) (by omega) (by omega)
  have b2 : 0 ≤ v1 * 64 + (s[2].toNat : Int) % 64 ∧ v1 * 64 + (s[2].toNat : Int) % 64 < 65536 := by omega
  generalize v1 * 64 + (s[2].toNat : Int) % 64 = v2 at *
  obtain ⟨b1, c1⟩ := b1
  obtain ⟨b2, c2⟩ := b2
  clear h1'
  go_enter Try.func112, Try.ntmps112
  go_wp2
  refine wp_loop_rounds 3 ?_
  repeat any_goals (rw [rounds_succ]; go_wp2_with (first | (go_at_call 123; refine (size_any _ _).mono ?_; rintro e w' ⟨rfl, rfl⟩) | (go_at_call 106; refine (isPoint_any _ _).mono ?_; rintro e w' ⟨rfl, rfl⟩)))
  all_goals (go_ret2; exact took (by simp_all [vld]))
set_option maxRecDepth 100000 in
theorem take_3s (s : ByteArray) (w : World) (h0 : 0 < s.size) (h0' : s.size < 3) (h1 : ((s[0].toNat : Int) / 16 == 14) = true) :
    Calls Try.prog 112 #[.string s] w (Took 0 0 w) := by
  have a0 := byte_bd s 0 (by omega)
  have h1' : (s[0].toNat : Int) / 16 = 14 := by simpa using h1
  have q0 : 128 ≤ (s[0].toNat : Int) := by omega
  have g6 : ((s[0].toNat : Int) / 32 == 6) = false := by rw [beq_eq_false_iff_ne]; omega
  clear h1'
  go_enter Try.func112, Try.ntmps112
  go_wp2
  all_goals (go_ret2; exact ⟨rfl, rfl⟩)
set_option maxRecDepth 100000 in
theorem take_3x1 (s : ByteArray) (w : World) (h0 : 3 ≤ s.size) (h1 : ((s[0].toNat : Int) / 16 == 14) = true) (hs : s.size ≤ 140737488351232) (hc1 : ((s[1].toNat : Int) / 64 != 2) = true) :
    Calls Try.prog 112 #[.string s] w (Took 0 0 w) := by
  have a0 := byte_bd s 0 (by omega)
  have a1 := byte_bd s 1 (by omega)
  have h1' : (s[0].toNat : Int) / 16 = 14 := by simpa using h1
  have q0 : 128 ≤ (s[0].toNat : Int) := by omega
  have g6 : ((s[0].toNat : Int) / 32 == 6) = false := by rw [beq_eq_false_iff_ne]; omega
  clear h1'
  go_enter Try.func112, Try.ntmps112
  go_wp2
  refine wp_loop_rounds 3 ?_
  repeat any_goals (rw [rounds_succ]; go_wp2_with (first | (go_at_call 123; refine (size_any _ _).mono ?_; rintro e w' ⟨rfl, rfl⟩) | (go_at_call 106; refine (isPoint_any _ _).mono ?_; rintro e w' ⟨rfl, rfl⟩)))
  all_goals (go_ret2; exact ⟨rfl, rfl⟩)
set_option maxRecDepth 100000 in
theorem take_3x2 (s : ByteArray) (w : World) (h0 : 3 ≤ s.size) (h1 : ((s[0].toNat : Int) / 16 == 14) = true) (hs : s.size ≤ 140737488351232) (hc1 : ((s[1].toNat : Int) / 64 != 2) = false) (hc2 : ((s[2].toNat : Int) / 64 != 2) = true) :
    Calls Try.prog 112 #[.string s] w (Took 0 0 w) := by
  have a0 := byte_bd s 0 (by omega)
  have a1 := byte_bd s 1 (by omega)
  have a2 := byte_bd s 2 (by omega)
  have h1' : (s[0].toNat : Int) / 16 = 14 := by simpa using h1
  have q0 : 128 ≤ (s[0].toNat : Int) := by omega
  have g6 : ((s[0].toNat : Int) / 32 == 6) = false := by rw [beq_eq_false_iff_ne]; omega
  have e1 := cont6 (x := (s[0].toNat : Int) % 16) (y := (s[1].toNat : Int)) (by omega) (by omega)
  have b1 : 0 ≤ (s[0].toNat : Int) % 16 * 64 + (s[1].toNat : Int) % 64 ∧ (s[0].toNat : Int) % 16 * 64 + (s[1].toNat : Int) % 64 < 1024 := by omega
  generalize (s[0].toNat : Int) % 16 * 64 + (s[1].toNat : Int) % 64 = v1 at *
  obtain ⟨b1, c1⟩ := b1
  clear h1'
  go_enter Try.func112, Try.ntmps112
  go_wp2
  refine wp_loop_rounds 3 ?_
  repeat any_goals (rw [rounds_succ]; go_wp2_with (first | (go_at_call 123; refine (size_any _ _).mono ?_; rintro e w' ⟨rfl, rfl⟩) | (go_at_call 106; refine (isPoint_any _ _).mono ?_; rintro e w' ⟨rfl, rfl⟩)))
  all_goals (go_ret2; exact ⟨rfl, rfl⟩)
set_option maxRecDepth 100000 in
theorem take_4 (s : ByteArray) (w : World) (h0 : 4 ≤ s.size) (h1 : ((s[0].toNat : Int) / 8 == 30) = true) (hs : s.size ≤ 140737488351232) (hc1 : ((s[1].toNat : Int) / 64 != 2) = false) (hc2 : ((s[2].toNat : Int) / 64 != 2) = false) (hc3 : ((s[3].toNat : Int) / 64 != 2) = false) :
    Calls Try.prog 112 #[.string s] w (Took (vld ((((s[0].toNat : Int) % 8 * 64 + (s[1].toNat : Int) % 64) * 64 + (s[2].toNat : Int) % 64) * 64 + (s[3].toNat : Int) % 64) 4).1 (vld ((((s[0].toNat : Int) % 8 * 64 + (s[1].toNat : Int) % 64) * 64 + (s[2].toNat : Int) % 64) * 64 + (s[3].toNat : Int) % 64) 4).2 w) := by
  have a0 := byte_bd s 0 (by omega)
  have a1 := byte_bd s 1 (by omega)
  have a2 := byte_bd s 2 (by omega)
  have a3 := byte_bd s 3 (by omega)
  have h1' : (s[0].toNat : Int) / 8 = 30 := by simpa using h1
  have q0 : 128 ≤ (s[0].toNat : Int) := by omega
  have g6 : ((s[0].toNat : Int) / 32 == 6) = false := by rw [beq_eq_false_iff_ne]; omega
  have g14 : ((s[0].toNat : Int) / 16 == 14) = false := by rw [beq_eq_false_iff_ne]; omega
  have e1 := cont6 (x := (s[0].toNat : Int) % 8) (y := (s[1].toNat : Int)) (by omega) (by omega)
  have b1 : 0 ≤ (s[0].toNat : Int) % 8 * 64 + (s[1].toNat : Int) % 64 ∧ (s[0].toNat : Int) % 8 * 64 + (s[1].toNat : Int) % 64 < 512 := by omega
  generalize (s[0].toNat : Int) % 8 * 64 + (s[1].toNat : Int) % 64 = v1 at *
  have e2 := cont6 (x := v1) (y := (s[2].toNat : Int)) (by omega) (by omega)
  have b2 : 0 ≤ v1 * 64 + (s[2].toNat : Int) % 64 ∧ v1 * 64 + (s[2].toNat : Int) % 64 < 32768 := by omega
  generalize v1 * 64 + (s[2].toNat : Int) % 64 = v2 at *
  have e3 := cont6 (x := v2) (y := (s[3].toNat : Int)) (by omega) (by omega)
  have b3 : 0 ≤ v2 * 64 + (s[3].toNat : Int) % 64 ∧ v2 * 64 + (s[3].toNat : Int) % 64 < 2097152 := by omega
  generalize v2 * 64 + (s[3].toNat : Int) % 64 = v3 at *
  obtain ⟨b1, c1⟩ := b1
  obtain ⟨b2, c2⟩ := b2
  obtain ⟨b3, c3⟩ := b3
  clear h1'
  go_enter Try.func112, Try.ntmps112
  go_wp2
  refine wp_loop_rounds 4 ?_
  repeat any_goals (rw [rounds_succ]; go_wp2_with (first | (go_at_call 123; refine (size_any _ _).mono ?_; rintro e w' ⟨rfl, rfl⟩) | (go_at_call 106; refine (isPoint_any _ _).mono ?_; rintro e w' ⟨rfl, rfl⟩)))
  all_goals (go_ret2; exact took (by simp_all [vld]))
set_option maxRecDepth 100000 in
theorem take_4s (s : ByteArray) (w : World) (h0 : 0 < s.size) (h0' : s.size < 4) (h1 : ((s[0].toNat : Int) / 8 == 30) = true) :
    Calls Try.prog 112 #[.string s] w (Took 0 0 w) := by
  have a0 := byte_bd s 0 (by omega)
  have h1' : (s[0].toNat : Int) / 8 = 30 := by simpa using h1
  have q0 : 128 ≤ (s[0].toNat : Int) := by omega
  have g6 : ((s[0].toNat : Int) / 32 == 6) = false := by rw [beq_eq_false_iff_ne]; omega
  have g14 : ((s[0].toNat : Int) / 16 == 14) = false := by rw [beq_eq_false_iff_ne]; omega
  clear h1'
  go_enter Try.func112, Try.ntmps112
  go_wp2
  all_goals (go_ret2; exact ⟨rfl, rfl⟩)
set_option maxRecDepth 100000 in
theorem take_4x1 (s : ByteArray) (w : World) (h0 : 4 ≤ s.size) (h1 : ((s[0].toNat : Int) / 8 == 30) = true) (hs : s.size ≤ 140737488351232) (hc1 : ((s[1].toNat : Int) / 64 != 2) = true) :
    Calls Try.prog 112 #[.string s] w (Took 0 0 w) := by
  have a0 := byte_bd s 0 (by omega)
  have a1 := byte_bd s 1 (by omega)
  have h1' : (s[0].toNat : Int) / 8 = 30 := by simpa using h1
  have q0 : 128 ≤ (s[0].toNat : Int) := by omega
  have g6 : ((s[0].toNat : Int) / 32 == 6) = false := by rw [beq_eq_false_iff_ne]; omega
  have g14 : ((s[0].toNat : Int) / 16 == 14) = false := by rw [beq_eq_false_iff_ne]; omega
  clear h1'
  go_enter Try.func112, Try.ntmps112
  go_wp2
  refine wp_loop_rounds 4 ?_
  repeat any_goals (rw [rounds_succ]; go_wp2_with (first | (go_at_call 123; refine (size_any _ _).mono ?_; rintro e w' ⟨rfl, rfl⟩) | (go_at_call 106; refine (isPoint_any _ _).mono ?_; rintro e w' ⟨rfl, rfl⟩)))
  all_goals (go_ret2; exact ⟨rfl, rfl⟩)
set_option maxRecDepth 100000 in
theorem take_4x2 (s : ByteArray) (w : World) (h0 : 4 ≤ s.size) (h1 : ((s[0].toNat : Int) / 8 == 30) = true) (hs : s.size ≤ 140737488351232) (hc1 : ((s[1].toNat : Int) / 64 != 2) = false) (hc2 : ((s[2].toNat : Int) / 64 != 2) = true) :
    Calls Try.prog 112 #[.string s] w (Took 0 0 w) := by
  have a0 := byte_bd s 0 (by omega)
  have a1 := byte_bd s 1 (by omega)
  have a2 := byte_bd s 2 (by omega)
  have h1' : (s[0].toNat : Int) / 8 = 30 := by simpa using h1
  have q0 : 128 ≤ (s[0].toNat : Int) := by omega
  have g6 : ((s[0].toNat : Int) / 32 == 6) = false := by rw [beq_eq_false_iff_ne]; omega
  have g14 : ((s[0].toNat : Int) / 16 == 14) = false := by rw [beq_eq_false_iff_ne]; omega
  have e1 := cont6 (x := (s[0].toNat : Int) % 8) (y := (s[1].toNat : Int)) (by omega) (by omega)
  have b1 : 0 ≤ (s[0].toNat : Int) % 8 * 64 + (s[1].toNat : Int) % 64 ∧ (s[0].toNat : Int) % 8 * 64 + (s[1].toNat : Int) % 64 < 512 := by omega
  generalize (s[0].toNat : Int) % 8 * 64 + (s[1].toNat : Int) % 64 = v1 at *
  obtain ⟨b1, c1⟩ := b1
  clear h1'
  go_enter Try.func112, Try.ntmps112
  go_wp2
  refine wp_loop_rounds 4 ?_
  repeat any_goals (rw [rounds_succ]; go_wp2_with (first | (go_at_call 123; refine (size_any _ _).mono ?_; rintro e w' ⟨rfl, rfl⟩) | (go_at_call 106; refine (isPoint_any _ _).mono ?_; rintro e w' ⟨rfl, rfl⟩)))
  all_goals (go_ret2; exact ⟨rfl, rfl⟩)
set_option maxRecDepth 100000 in
theorem take_4x3 (s : ByteArray) (w : World) (h0 : 4 ≤ s.size) (h1 : ((s[0].toNat : Int) / 8 == 30) = true) (hs : s.size ≤ 140737488351232) (hc1 : ((s[1].toNat : Int) / 64 != 2) = false) (hc2 : ((s[2].toNat : Int) / 64 != 2) = false) (hc3 : ((s[3].toNat : Int) / 64 != 2) = true) :
    Calls Try.prog 112 #[.string s] w (Took 0 0 w) := by
  have a0 := byte_bd s 0 (by omega)
  have a1 := byte_bd s 1 (by omega)
  have a2 := byte_bd s 2 (by omega)
  have a3 := byte_bd s 3 (by omega)
  have h1' : (s[0].toNat : Int) / 8 = 30 := by simpa using h1
  have q0 : 128 ≤ (s[0].toNat : Int) := by omega
  have g6 : ((s[0].toNat : Int) / 32 == 6) = false := by rw [beq_eq_false_iff_ne]; omega
  have g14 : ((s[0].toNat : Int) / 16 == 14) = false := by rw [beq_eq_false_iff_ne]; omega
  have e1 := cont6 (x := (s[0].toNat : Int) % 8) (y := (s[1].toNat : Int)) (by omega) (by omega)
  have b1 : 0 ≤ (s[0].toNat : Int) % 8 * 64 + (s[1].toNat : Int) % 64 ∧ (s[0].toNat : Int) % 8 * 64 + (s[1].toNat : Int) % 64 < 512 := by omega
  generalize (s[0].toNat : Int) % 8 * 64 + (s[1].toNat : Int) % 64 = v1 at *
  have e2 := cont6 (x := v1) (y := (s[2].toNat : Int)) (by omega) (by omega)
  have b2 : 0 ≤ v1 * 64 + (s[2].toNat : Int) % 64 ∧ v1 * 64 + (s[2].toNat : Int) % 64 < 32768 := by omega
  generalize v1 * 64 + (s[2].toNat : Int) % 64 = v2 at *
  obtain ⟨b1, c1⟩ := b1
  obtain ⟨b2, c2⟩ := b2
  clear h1'
  go_enter Try.func112, Try.ntmps112
  go_wp2
  refine wp_loop_rounds 4 ?_
  repeat any_goals (rw [rounds_succ]; go_wp2_with (first | (go_at_call 123; refine (size_any _ _).mono ?_; rintro e w' ⟨rfl, rfl⟩) | (go_at_call 106; refine (isPoint_any _ _).mono ?_; rintro e w' ⟨rfl, rfl⟩)))
  all_goals (go_ret2; exact ⟨rfl, rfl⟩)
set_option maxRecDepth 100000 in
theorem take_1 (s : ByteArray) (w : World) (h0 : 0 < s.size) (h1 : (s[0].toNat : Int) < 128) :
    Calls Try.prog 112 #[.string s] w (Took (s[0].toNat : Int) 1 w) := by
  have a0 := byte_bd s 0 (by omega)
  go_enter Try.func112, Try.ntmps112
  go_wp2
  all_goals (go_ret2; exact ⟨rfl, rfl⟩)
set_option maxRecDepth 100000 in
theorem take_no (s : ByteArray) (w : World) (h0 : 0 < s.size) (h1 : 128 ≤ (s[0].toNat : Int)) (g6 : ((s[0].toNat : Int) / 32 == 6) = false) (g14 : ((s[0].toNat : Int) / 16 == 14) = false) (g30 : ((s[0].toNat : Int) / 8 == 30) = false) :
    Calls Try.prog 112 #[.string s] w (Took 0 0 w) := by
  have a0 := byte_bd s 0 (by omega)
  go_enter Try.func112, Try.ntmps112
  go_wp2
  all_goals (go_ret2; exact ⟨rfl, rfl⟩)
end Go.Proofs.Ytdhpbfmamkndjaa.Text
