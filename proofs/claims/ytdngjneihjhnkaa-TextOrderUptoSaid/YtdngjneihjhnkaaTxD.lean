/- Plain: the order of texts by bytes is that of their code points. No program in sight. -/
import Derived.Test.YtdngjneihjhnkaaTxC
import Derived.Lib.Bytealg
namespace Ox
open Go
/-- the order of lists of numbers -/
def cmpInts : List Int → List Int → Int
  | [], [] => 0
  | [], _ :: _ => -1
  | _ :: _, [] => 1
  | a :: as, b :: bs => if a < b then -1 else if b < a then 1 else cmpInts as bs
theorem cmpInts_swap : ∀ a b : List Int, cmpInts b a = - cmpInts a b
  | [], [] => rfl
  | [], _ :: _ => rfl
  | _ :: _, [] => rfl
  | x :: a, y :: b => by
    have ih := cmpInts_swap a b
    unfold cmpInts
    rcases Int.lt_trichotomy x y with h | h | h
    · rw [if_neg (show ¬ y < x by omega), if_pos h, if_pos h]; rfl
    · rw [if_neg (show ¬ y < x by omega), if_neg (show ¬ x < y by omega), if_neg (show ¬ x < y by omega), if_neg (show ¬ y < x by omega)]; exact ih
    · rw [if_pos h, if_neg (show ¬ x < y by omega), if_pos h]
section
variable {p q p2 q2 p3 q3 p4 q4 : Int} {a b : Bytes}
theorem cb_lt (h0 : 0 ≤ p) (h1 : q < 256) (h : p < q) : Lib.compareBytes (ub p :: a) (ub q :: b) = -1 := by
  have e1 := ub_toNat (n := p) h0 (by omega)
  have e2 := ub_toNat (n := q) (by omega) h1
  unfold Lib.compareBytes
  rw [if_pos (by rw [UInt8.lt_iff_toNat_lt]; omega)]
theorem cb_same : Lib.compareBytes (ub p :: a) (ub p :: b) = Lib.compareBytes a b := by
  rw [Lib.compareBytes, if_neg (by rw [UInt8.lt_iff_toNat_lt]; omega), if_neg (by rw [UInt8.lt_iff_toNat_lt]; omega)]
theorem cb_step (h0 : 0 ≤ p) (h1 : q < 256) (h : p < q ∨ p = q ∧ Lib.compareBytes a b = -1) : Lib.compareBytes (ub p :: a) (ub q :: b) = -1 := by
  rcases h with h | ⟨rfl, h⟩
  · exact cb_lt h0 h1 h
  · rw [cb_same]; exact h
theorem cb2 (h0 : 0 ≤ p) (h1 : q < 256) (h2 : 0 ≤ p2) (h3 : q2 < 256) (h : p < q ∨ p = q ∧ p2 < q2) : Lib.compareBytes (ub p :: ub p2 :: a) (ub q :: ub q2 :: b) = -1 :=
  cb_step h0 h1 (h.imp id fun h => ⟨h.1, cb_lt h2 h3 h.2⟩)
theorem cb3 (h0 : 0 ≤ p) (h1 : q < 256) (h2 : 0 ≤ p2) (h3 : q2 < 256) (h4 : 0 ≤ p3) (h5 : q3 < 256) (h : p < q ∨ p = q ∧ (p2 < q2 ∨ p2 = q2 ∧ p3 < q3)) : Lib.compareBytes (ub p :: ub p2 :: ub p3 :: a) (ub q :: ub q2 :: ub q3 :: b) = -1 :=
  cb_step h0 h1 (h.imp id fun h => ⟨h.1, cb2 h2 h3 h4 h5 h.2⟩)
theorem cb4 (h0 : 0 ≤ p) (h1 : q < 256) (h2 : 0 ≤ p2) (h3 : q2 < 256) (h4 : 0 ≤ p3) (h5 : q3 < 256) (h6 : 0 ≤ p4) (h7 : q4 < 256) (h : p < q ∨ p = q ∧ (p2 < q2 ∨ p2 = q2 ∧ (p3 < q3 ∨ p3 = q3 ∧ p4 < q4))) : Lib.compareBytes (ub p :: ub p2 :: ub p3 :: ub p4 :: a) (ub q :: ub q2 :: ub q3 :: ub q4 :: b) = -1 :=
  cb_step h0 h1 (h.imp id fun h => ⟨h.1, cb3 h2 h3 h4 h5 h6 h7 h.2⟩)
end
theorem enc_lt {x y : Int} (hx : 0 ≤ x) (hy : y ≤ 1114111) (h : x < y) (r r' : Bytes) : Lib.compareBytes (enc x ++ r) (enc y ++ r') = -1 := by
  unfold enc
  by_cases x1 : x < 128
  · by_cases y1 : y < 128
    · rw [if_pos x1, if_pos y1]; exact cb_lt (by omega) (by omega) (by omega)
    · rw [if_pos x1, if_neg y1]; (repeat' split) <;> exact cb_lt (by omega) (by omega) (by omega)
  · rw [if_neg x1, if_neg (show ¬ y < 128 by omega)]
    by_cases x2 : x < 2048
    · by_cases y2 : y < 2048
      · rw [if_pos x2, if_pos y2]; exact cb2 (by omega) (by omega) (by omega) (by omega) (by omega)
      · rw [if_pos x2, if_neg y2]; (repeat' split) <;> exact cb_lt (by omega) (by omega) (by omega)
    · rw [if_neg x2, if_neg (show ¬ y < 2048 by omega)]
      by_cases x3 : x < 65536
      · by_cases y3 : y < 65536
        · rw [if_pos x3, if_pos y3]; exact cb3 (by omega) (by omega) (by omega) (by omega) (by omega) (by omega) (by omega)
        · rw [if_pos x3, if_neg y3]; exact cb_lt (by omega) (by omega) (by omega)
      · rw [if_neg x3, if_neg (show ¬ y < 65536 by omega)]
        exact cb4 (by omega) (by omega) (by omega) (by omega) (by omega) (by omega) (by omega) (by omega) (by omega)
theorem cb_pre : ∀ (p a b : Bytes), Lib.compareBytes (p ++ a) (p ++ b) = Lib.compareBytes a b
  | [], _, _ => rfl
  | x :: p, a, b => by
    rw [List.cons_append, List.cons_append, Lib.compareBytes, if_neg (by rw [UInt8.lt_iff_toNat_lt]; omega), if_neg (by rw [UInt8.lt_iff_toNat_lt]; omega)]
    exact cb_pre p a b
theorem cb_swap : ∀ a b : List UInt8, Lib.compareBytes b a = - Lib.compareBytes a b
  | [], [] => rfl
  | [], _ :: _ => rfl
  | _ :: _, [] => rfl
  | x :: a, y :: b => by
    have ih := cb_swap a b
    unfold Lib.compareBytes
    rcases Nat.lt_trichotomy x.toNat y.toNat with h | h | h
    · rw [if_neg (show ¬ y < x by rw [UInt8.lt_iff_toNat_lt]; omega), if_pos (show x < y by rw [UInt8.lt_iff_toNat_lt]; omega), if_pos (show x < y by rw [UInt8.lt_iff_toNat_lt]; omega)]; rfl
    · rw [if_neg (show ¬ y < x by rw [UInt8.lt_iff_toNat_lt]; omega), if_neg (show ¬ x < y by rw [UInt8.lt_iff_toNat_lt]; omega), if_neg (show ¬ x < y by rw [UInt8.lt_iff_toNat_lt]; omega), if_neg (show ¬ y < x by rw [UInt8.lt_iff_toNat_lt]; omega)]; exact ih
    · rw [if_pos (show y < x by rw [UInt8.lt_iff_toNat_lt]; omega), if_neg (show ¬ x < y by rw [UInt8.lt_iff_toNat_lt]; omega), if_pos (show y < x by rw [UInt8.lt_iff_toNat_lt]; omega)]
theorem enc_ne (v : Int) (r : Bytes) : ∃ b t, enc v ++ r = b :: t := by
  unfold enc
  (repeat' split) <;> exact ⟨_, _, rfl⟩
/-- of valid texts -/
theorem cmp_txt : ∀ {l m : List Int}, (∀ v ∈ l, isPt v = true) → (∀ v ∈ m, isPt v = true) → Lib.compareBytes (txt l) (txt m) = cmpInts l m
  | [], [], _, _ => rfl
  | [], y :: m, _, _ => by
    obtain ⟨b, t, e⟩ := enc_ne y (txt m)
    rw [txt_cons, e]
    rfl
  | x :: l, [], _, _ => by
    obtain ⟨b, t, e⟩ := enc_ne x (txt l)
    rw [txt_cons, e]
    rfl
  | x :: l, y :: m, hl, hm => by
    have hx := (isPt_iff x).1 (hl x (List.mem_cons_self ..))
    have hy := (isPt_iff y).1 (hm y (List.mem_cons_self ..))
    rw [txt_cons, txt_cons, cmpInts]
    rcases Int.lt_trichotomy x y with h | h | h
    · rw [if_pos h, enc_lt hx.1 hy.2.1 h]
    · subst h
      rw [if_neg (by omega), if_neg (by omega), cb_pre]
      exact cmp_txt (fun v h => hl v (List.mem_cons_of_mem _ h)) (fun v h => hm v (List.mem_cons_of_mem _ h))
    · rw [if_neg (by omega), if_pos h, cb_swap, enc_lt hy.1 hx.2.1 h]; rfl
end Ox
