/- Plain facts on UTF-8: what a text's first code point is, a text's code points, the bytes of a code point. No program in sight. -/
import Derived.Below
import Derived.Laws.BitsLemmas
namespace Ox
abbrev Bytes := List UInt8
/-- the i-th byte as a number; 0 behind the end -/
def bat (l : Bytes) (i : Nat) : Int := ((l.getD i 0).toNat : Int)
theorem bat_lo (l : Bytes) (i : Nat) : 0 ≤ bat l i := by unfold bat; omega
theorem bat_hi (l : Bytes) (i : Nat) : bat l i < 256 := by unfold bat; have := (l.getD i 0).toNat_lt; omega
theorem bat_drop (l : Bytes) (k i : Nat) : bat (l.drop k) i = bat l (k + i) := by simp [bat, List.getD]
def isPt (n : Int) : Bool := decide (0 ≤ n ∧ n ≤ 1114111 ∧ (n < 55296 ∨ 57343 < n))
theorem isPt_iff (n : Int) : isPt n = true ↔ 0 ≤ n ∧ n ≤ 1114111 ∧ (n < 55296 ∨ 57343 < n) := by simp [isPt]
def psz (n : Int) : Int := if n < 128 then 1 else if n < 2048 then 2 else if n < 65536 then 3 else 4
def ub (n : Int) : UInt8 := UInt8.ofNat n.toNat
theorem ub_toNat {n : Int} (h0 : 0 ≤ n) (h : n < 256) : ((ub n).toNat : Int) = n := by
  unfold ub
  rw [UInt8.toNat_ofNat']
  omega
theorem ub_bat (l : Bytes) (i : Nat) (h : i < l.length) : ub (bat l i) = l[i] := by
  unfold ub bat
  simp [List.getD, h]
/-- the bytes of a code point -/
def enc (n : Int) : Bytes :=
  if n < 128 then [ub n] else if n < 2048 then [ub (192 + n / 64), ub (128 + n % 64)]
  else if n < 65536 then [ub (224 + n / 4096), ub (128 + n / 64 % 64), ub (128 + n % 64)]
  else [ub (240 + n / 262144), ub (128 + n / 4096 % 64), ub (128 + n / 64 % 64), ub (128 + n % 64)]
theorem enc_length (n : Int) : ((enc n).length : Int) = psz n := by unfold enc psz; (repeat' split) <;> rfl
theorem psz_bd (n : Int) : 1 ≤ psz n ∧ psz n ≤ 4 := by unfold psz; (repeat' split) <;> omega
def vld (n k : Int) : Int × Int := if psz n = k ∧ isPt n = true then (n, k) else (0, 0)
/-- the first code point and how many bytes it has; (0, 0): none -/
def ustep (l : Bytes) : Int × Int :=
  if l.length = 0 then (0, 0)
  else if bat l 0 < 128 then (bat l 0, 1)
  else if bat l 0 / 32 = 6 then if 2 ≤ l.length ∧ bat l 1 / 64 = 2 then vld (bat l 0 % 32 * 64 + bat l 1 % 64) 2 else (0, 0)
  else if bat l 0 / 16 = 14 then if 3 ≤ l.length ∧ bat l 1 / 64 = 2 ∧ bat l 2 / 64 = 2 then vld ((bat l 0 % 16 * 64 + bat l 1 % 64) * 64 + bat l 2 % 64) 3 else (0, 0)
  else if bat l 0 / 8 = 30 then if 4 ≤ l.length ∧ bat l 1 / 64 = 2 ∧ bat l 2 / 64 = 2 ∧ bat l 3 / 64 = 2 then vld (((bat l 0 % 8 * 64 + bat l 1 % 64) * 64 + bat l 2 % 64) * 64 + bat l 3 % 64) 4 else (0, 0)
  else (0, 0)
end Ox
