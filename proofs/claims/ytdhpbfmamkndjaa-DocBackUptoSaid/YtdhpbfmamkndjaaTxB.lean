/- Plain facts on UTF-8: what oxbowref01.first finds is what text.take finds. No program in sight. -/
import Derived.Test.YtdhpbfmamkndjaaTx
namespace Ox
def fst1 (v n : Int) (l : Bytes) : Int × Int := if isPt v = true ∧ enc v = l.take n.toNat then (v, n) else (0, 0)
theorem ub_inj {a b : Int} (h0 : 0 ≤ a) (h1 : a < 256) (h2 : 0 ≤ b) (h3 : b < 256) : ub a = ub b ↔ a = b := by
  constructor
  · intro h
    have e1 := ub_toNat h0 h1
    have e2 := ub_toNat h2 h3
    rw [h] at e1
    omega
  · rintro rfl; rfl
theorem take_1 {l : Bytes} (h : 1 ≤ l.length) : l.take 1 = [ub (bat l 0)] := by
  match l, h with
  | a :: l, _ => simp [bat, ub]
theorem take_2 {l : Bytes} (h : 2 ≤ l.length) : l.take 2 = [ub (bat l 0), ub (bat l 1)] := by
  match l, h with
  | a :: b :: l, _ => simp [bat, ub]
theorem take_3 {l : Bytes} (h : 3 ≤ l.length) : l.take 3 = [ub (bat l 0), ub (bat l 1), ub (bat l 2)] := by
  match l, h with
  | a :: b :: c :: l, _ => simp [bat, ub]
theorem take_4 {l : Bytes} (h : 4 ≤ l.length) : l.take 4 = [ub (bat l 0), ub (bat l 1), ub (bat l 2), ub (bat l 3)] := by
  match l, h with
  | a :: b :: c :: d :: l, _ => simp [bat, ub]
theorem enc_len_ne {v : Int} {n : Nat} {l : Bytes} (hl : n ≤ l.length) (h : psz v ≠ n) : enc v ≠ l.take n := by
  intro e
  have h1 := enc_length v
  rw [e, List.length_take, Nat.min_eq_left hl] at h1
  exact h h1.symm
theorem fst1_a {l : Bytes} (h : 1 ≤ l.length) (h1 : bat l 0 < 128 ∨ (128 ≤ bat l 0 ∧ bat l 0 < 192) ∨ 248 ≤ bat l 0) : fst1 (bat l 0) (1 : Nat) l = ustep l := by
  have b0 := bat_lo l 0
  have b1 := bat_hi l 0
  by_cases c : bat l 0 < 128
  · have hf : fst1 (bat l 0) (1 : Nat) l = (bat l 0, 1) := by
      unfold fst1
      rw [if_pos ⟨(isPt_iff _).2 ⟨by omega, by omega, by omega⟩, by unfold enc; rw [if_pos c]; exact (take_1 h).symm⟩]
      rfl
    have hu : ustep l = (bat l 0, 1) := by unfold ustep; rw [if_neg (by omega), if_pos c]
    rw [hf, hu]
  · have hf : fst1 (bat l 0) (1 : Nat) l = (0, 0) := by
      unfold fst1
      rw [if_neg (fun hh => enc_len_ne (n := 1) h (by unfold psz; rw [if_neg c, if_pos (by omega)]; decide) hh.2)]
    have hu : ustep l = (0, 0) := by unfold ustep; rw [if_neg (by omega), if_neg c, if_neg (by omega), if_neg (by omega), if_neg (by omega)]
    rw [hf, hu]
theorem fst1_2 {l : Bytes} (h : 2 ≤ l.length) (h1 : 192 ≤ bat l 0) (h2 : bat l 0 < 224) : fst1 ((bat l 0 - 192) * 64 + bat l 1 % 64) (2 : Nat) l = ustep l := by
  have b0 := bat_lo l 1
  have b1 := bat_hi l 1
  unfold ustep
  rw [if_neg (by omega), if_neg (by omega), if_pos (by omega), show bat l 0 % 32 = bat l 0 - 192 from by omega]
  generalize hv : (bat l 0 - 192) * 64 + bat l 1 % 64 = v
  unfold fst1 vld
  have hsz : psz v = 2 ↔ 128 ≤ v := by unfold psz; (repeat' split) <;> omega
  have hp : isPt v = true := (isPt_iff _).2 ⟨by omega, by omega, by omega⟩
  have key : enc v = l.take 2 ↔ (psz v = 2 ∧ bat l 1 / 64 = 2) := by
    by_cases hs : psz v = 2
    · have := hsz.1 hs
      rw [take_2 h]
      unfold enc
      rw [if_neg (by omega), if_pos (by omega)]
      simp only [List.cons.injEq, and_true]
      rw [ub_inj (by omega) (by omega) (by omega) (by omega), ub_inj (by omega) (by omega) (by omega) (by omega)]
      omega
    · exact ⟨fun e => absurd e (enc_len_ne (n := 2) h (by simpa using hs)), fun e => absurd e.1 hs⟩
  simp only [Int.toNat_natCast, hp, true_and, and_true, h, key]
  by_cases c1 : psz v = 2 <;> by_cases c2 : bat l 1 / 64 = 2 <;> simp [c1, c2]
theorem fst1_3 {l : Bytes} (h : 3 ≤ l.length) (h1 : 224 ≤ bat l 0) (h2 : bat l 0 < 240) : fst1 (((bat l 0 - 224) * 64 + bat l 1 % 64) * 64 + bat l 2 % 64) (3 : Nat) l = ustep l := by
  have b0 := bat_lo l 1
  have b1 := bat_hi l 1
  have b2 := bat_lo l 2
  have b3 := bat_hi l 2
  unfold ustep
  rw [if_neg (by omega), if_neg (by omega), if_neg (by omega), if_pos (by omega), show bat l 0 % 16 = bat l 0 - 224 from by omega]
  generalize hv : ((bat l 0 - 224) * 64 + bat l 1 % 64) * 64 + bat l 2 % 64 = v
  unfold fst1 vld
  have hsz : psz v = 3 ↔ 2048 ≤ v := by unfold psz; (repeat' split) <;> omega
  have key : enc v = l.take 3 ↔ (psz v = 3 ∧ bat l 1 / 64 = 2 ∧ bat l 2 / 64 = 2) := by
    by_cases hs : psz v = 3
    · have := hsz.1 hs
      rw [take_3 h]
      unfold enc
      rw [if_neg (by omega), if_neg (by omega), if_pos (by omega)]
      simp only [List.cons.injEq, and_true]
      rw [ub_inj (by omega) (by omega) (by omega) (by omega), ub_inj (by omega) (by omega) (by omega) (by omega), ub_inj (by omega) (by omega) (by omega) (by omega)]
      omega
    · exact ⟨fun e => absurd e (enc_len_ne (n := 3) h (by simpa using hs)), fun e => absurd e.1 hs⟩
  simp only [Int.toNat_natCast, true_and, h, key]
  by_cases c0 : isPt v = true <;> by_cases c1 : psz v = 3 <;> by_cases c2 : bat l 1 / 64 = 2 <;> by_cases c3 : bat l 2 / 64 = 2 <;> simp [c0, c1, c2, c3]
theorem fst1_4 {l : Bytes} (h : 4 ≤ l.length) (h1 : 240 ≤ bat l 0) (h2 : bat l 0 < 248) : fst1 ((((bat l 0 - 240) * 64 + bat l 1 % 64) * 64 + bat l 2 % 64) * 64 + bat l 3 % 64) (4 : Nat) l = ustep l := by
  have b0 := bat_lo l 1
  have b1 := bat_hi l 1
  have b2 := bat_lo l 2
  have b3 := bat_hi l 2
  have b4 := bat_lo l 3
  have b5 := bat_hi l 3
  unfold ustep
  rw [if_neg (by omega), if_neg (by omega), if_neg (by omega), if_neg (by omega), if_pos (by omega), show bat l 0 % 8 = bat l 0 - 240 from by omega]
  generalize hv : (((bat l 0 - 240) * 64 + bat l 1 % 64) * 64 + bat l 2 % 64) * 64 + bat l 3 % 64 = v
  unfold fst1 vld
  have hsz : psz v = 4 ↔ 65536 ≤ v := by unfold psz; (repeat' split) <;> omega
  have key : enc v = l.take 4 ↔ (psz v = 4 ∧ bat l 1 / 64 = 2 ∧ bat l 2 / 64 = 2 ∧ bat l 3 / 64 = 2) := by
    by_cases hs : psz v = 4
    · have := hsz.1 hs
      rw [take_4 h]
      unfold enc
      rw [if_neg (by omega), if_neg (by omega), if_neg (by omega)]
      simp only [List.cons.injEq, and_true]
      rw [ub_inj (by omega) (by omega) (by omega) (by omega), ub_inj (by omega) (by omega) (by omega) (by omega), ub_inj (by omega) (by omega) (by omega) (by omega), ub_inj (by omega) (by omega) (by omega) (by omega)]
      omega
    · exact ⟨fun e => absurd e (enc_len_ne (n := 4) h (by simpa using hs)), fun e => absurd e.1 hs⟩
  simp only [Int.toNat_natCast, true_and, h, key]
  by_cases c0 : isPt v = true <;> by_cases c1 : psz v = 4 <;> by_cases c2 : bat l 1 / 64 = 2 <;> by_cases c3 : bat l 2 / 64 = 2 <;> by_cases c4 : bat l 3 / 64 = 2 <;> simp [c0, c1, c2, c3, c4]
theorem step_short {l : Bytes} (h : 1 ≤ l.length) (hh : (192 ≤ bat l 0 ∧ bat l 0 < 224 ∧ l.length < 2) ∨ (224 ≤ bat l 0 ∧ bat l 0 < 240 ∧ l.length < 3) ∨ (240 ≤ bat l 0 ∧ bat l 0 < 248 ∧ l.length < 4)) : (0, 0) = ustep l := by
  unfold ustep
  rw [if_neg (by omega), if_neg (by omega)]
  rcases hh with ⟨h1, h2, h3⟩ | ⟨h1, h2, h3⟩ | ⟨h1, h2, h3⟩
  · rw [if_pos (by omega), if_neg (by omega)]
  · rw [if_neg (by omega), if_pos (by omega), if_neg (by omega)]
  · rw [if_neg (by omega), if_neg (by omega), if_pos (by omega), if_neg (by omega)]
end Ox
