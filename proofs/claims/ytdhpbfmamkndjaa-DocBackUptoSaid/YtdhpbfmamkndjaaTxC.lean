/- Plain facts on UTF-8: a text's code points. No program in sight. -/
import Derived.Test.YtdhpbfmamkndjaaTxB
namespace Ox
theorem ustep_nil : ustep [] = (0, 0) := rfl
/-- what the first code point is: its bytes stand at the text's head -/
theorem ustep_some {l : Bytes} (h : (ustep l).2 ≠ 0) : isPt (ustep l).1 = true ∧ (ustep l).2 = psz (ustep l).1 ∧ (ustep l).2 ≤ l.length ∧ 1 ≤ (ustep l).2 ∧ l.take (ustep l).2.toNat = enc (ustep l).1 := by
  have key : ∀ (v : Int) (n : Nat), 1 ≤ n → n ≤ l.length → fst1 v n l = ustep l → isPt (ustep l).1 = true ∧ (ustep l).2 = psz (ustep l).1 ∧ (ustep l).2 ≤ l.length ∧ 1 ≤ (ustep l).2 ∧ l.take (ustep l).2.toNat = enc (ustep l).1 := by
    intro v n h1 hn hf
    rw [← hf] at h ⊢
    unfold fst1 at h ⊢
    by_cases c : isPt v = true ∧ enc v = l.take (n : Int).toNat
    · rw [if_pos c]
      have he := enc_length v
      rw [c.2, List.length_take, Int.toNat_natCast, Nat.min_eq_left hn] at he
      exact ⟨c.1, he, show (n : Int) ≤ _ by omega, show (1 : Int) ≤ (n : Int) by omega, c.2.symm⟩
    · rw [if_neg c] at h; exact absurd rfl h
  rcases Nat.eq_zero_or_pos l.length with h0 | h0
  · rw [List.eq_nil_of_length_eq_zero h0] at h; exact absurd rfl h
  by_cases c1 : bat l 0 < 192
  · exact key _ 1 (by omega) h0 (fst1_a h0 (by omega))
  by_cases c2 : bat l 0 < 224
  · by_cases hz : 2 ≤ l.length
    · exact key _ 2 (by omega) hz (fst1_2 hz (by omega) c2)
    · rw [← step_short h0 (by omega)] at h; exact absurd rfl h
  by_cases c3 : bat l 0 < 240
  · by_cases hz : 3 ≤ l.length
    · exact key _ 3 (by omega) hz (fst1_3 hz (by omega) c3)
    · rw [← step_short h0 (by omega)] at h; exact absurd rfl h
  by_cases c4 : bat l 0 < 248
  · by_cases hz : 4 ≤ l.length
    · exact key _ 4 (by omega) hz (fst1_4 hz (by omega) c4)
    · rw [← step_short h0 (by omega)] at h; exact absurd rfl h
  · exact key _ 1 (by omega) h0 (fst1_a h0 (by omega))
theorem bat_append_left {a b : Bytes} {i : Nat} (h : i < a.length) : bat (a ++ b) i = bat a i := by
  unfold bat
  rw [List.getD_eq_getElem?_getD, List.getD_eq_getElem?_getD, List.getElem?_append_left h]
theorem bat_cons (a : UInt8) (l : Bytes) : bat (a :: l) 0 = (a.toNat : Int) := rfl
theorem bat_cons_succ (a : UInt8) (l : Bytes) (i : Nat) : bat (a :: l) (i + 1) = bat l i := rfl
/-- the bytes of a code point, and whatever follows -/
theorem ustep_enc {v : Int} (hp : isPt v = true) (r : Bytes) : ustep (enc v ++ r) = (v, psz v) := by
  obtain ⟨h0, h1, h2⟩ := (isPt_iff v).1 hp
  have hlen := enc_length v
  have fin : ∀ (n : Nat), (n : Int) = psz v → fst1 v n (enc v ++ r) = (v, psz v) := by
    intro n hn
    unfold fst1
    rw [if_pos ⟨hp, by rw [Int.toNat_natCast, List.take_append_of_le_length (by omega), List.take_of_length_le (by omega)]⟩, hn]
  have hl : (enc v).length ≤ (enc v ++ r).length := by simp
  by_cases c1 : v < 128
  · have he : enc v = [ub v] := by unfold enc; rw [if_pos c1]
    have hs : psz v = 1 := by unfold psz; rw [if_pos c1]
    have hb : bat (enc v ++ r) 0 = v := by rw [he]; exact ub_toNat h0 (by omega)
    have := fst1_a (l := enc v ++ r) (by omega) (by omega)
    rw [hb] at this
    rw [← this]
    exact fin 1 (by rw [hs]; rfl)
  by_cases c2 : v < 2048
  · have he : enc v = [ub (192 + v / 64), ub (128 + v % 64)] := by unfold enc; rw [if_neg c1, if_pos c2]
    have hs : psz v = 2 := by unfold psz; rw [if_neg c1, if_pos c2]
    have hb0 : bat (enc v ++ r) 0 = 192 + v / 64 := by rw [he]; exact ub_toNat (by omega) (by omega)
    have hb1 : bat (enc v ++ r) 1 = 128 + v % 64 := by rw [he]; exact ub_toNat (by omega) (by omega)
    have := fst1_2 (l := enc v ++ r) (by omega) (by omega) (by omega)
    rw [hb0, hb1, show (192 + v / 64 - 192) * 64 + (128 + v % 64) % 64 = v from by omega] at this
    rw [← this]
    exact fin 2 (by rw [hs]; rfl)
  by_cases c3 : v < 65536
  · have he : enc v = [ub (224 + v / 4096), ub (128 + v / 64 % 64), ub (128 + v % 64)] := by unfold enc; rw [if_neg c1, if_neg c2, if_pos c3]
    have hs : psz v = 3 := by unfold psz; rw [if_neg c1, if_neg c2, if_pos c3]
    have hb0 : bat (enc v ++ r) 0 = 224 + v / 4096 := by rw [he]; exact ub_toNat (by omega) (by omega)
    have hb1 : bat (enc v ++ r) 1 = 128 + v / 64 % 64 := by rw [he]; exact ub_toNat (by omega) (by omega)
    have hb2 : bat (enc v ++ r) 2 = 128 + v % 64 := by rw [he]; exact ub_toNat (by omega) (by omega)
    have := fst1_3 (l := enc v ++ r) (by omega) (by omega) (by omega)
    rw [hb0, hb1, hb2, show ((224 + v / 4096 - 224) * 64 + (128 + v / 64 % 64) % 64) * 64 + (128 + v % 64) % 64 = v from by omega] at this
    rw [← this]
    exact fin 3 (by rw [hs]; rfl)
  · have he : enc v = [ub (240 + v / 262144), ub (128 + v / 4096 % 64), ub (128 + v / 64 % 64), ub (128 + v % 64)] := by unfold enc; rw [if_neg c1, if_neg c2, if_neg c3]
    have hs : psz v = 4 := by unfold psz; rw [if_neg c1, if_neg c2, if_neg c3]
    have hb0 : bat (enc v ++ r) 0 = 240 + v / 262144 := by rw [he]; exact ub_toNat (by omega) (by omega)
    have hb1 : bat (enc v ++ r) 1 = 128 + v / 4096 % 64 := by rw [he]; exact ub_toNat (by omega) (by omega)
    have hb2 : bat (enc v ++ r) 2 = 128 + v / 64 % 64 := by rw [he]; exact ub_toNat (by omega) (by omega)
    have hb3 : bat (enc v ++ r) 3 = 128 + v % 64 := by rw [he]; exact ub_toNat (by omega) (by omega)
    have := fst1_4 (l := enc v ++ r) (by omega) (by omega) (by omega)
    rw [hb0, hb1, hb2, hb3, show (((240 + v / 262144 - 240) * 64 + (128 + v / 4096 % 64) % 64) * 64 + (128 + v / 64 % 64) % 64) * 64 + (128 + v % 64) % 64 = v from by omega] at this
    rw [← this]
    exact fin 4 (by rw [hs]; rfl)
/-- the code points of a text; none: it is not valid -/
def ptsN : Nat → Bytes → Option (List Int)
  | _, [] => some []
  | 0, _ :: _ => none
  | n + 1, b :: l => if (ustep (b :: l)).2 = 0 then none else (ptsN n ((b :: l).drop (ustep (b :: l)).2.toNat)).map ((ustep (b :: l)).1 :: ·)
def pts (l : Bytes) : Option (List Int) := ptsN l.length l
theorem ptsN_enough : ∀ (n m : Nat) (l : Bytes), l.length ≤ n → l.length ≤ m → ptsN n l = ptsN m l
  | 0, m, [], _, _ => by cases m <;> rfl
  | n + 1, m, [], _, _ => by cases m <;> rfl
  | n + 1, m + 1, b :: l, hn, hm => by
    unfold ptsN
    split
    · rfl
    · rename_i h
      have h1 := (ustep_some h).2.2.2.1
      rw [ptsN_enough n m _ (by simp at hn ⊢; omega) (by simp at hm ⊢; omega)]
  | 0, _, _ :: _, h, _ => by simp at h
  | _ + 1, 0, _ :: _, _, h => by simp at h
theorem pts_nil : pts [] = some [] := rfl
theorem pts_none {l : Bytes} (h : l ≠ []) (h0 : (ustep l).2 = 0) : pts l = none := by
  cases l with
  | nil => exact absurd rfl h
  | cons b l => unfold pts; simp only [List.length_cons, ptsN]; rw [if_pos h0]
theorem pts_step {l : Bytes} (h0 : (ustep l).2 ≠ 0) : pts l = (pts (l.drop (ustep l).2.toNat)).map ((ustep l).1 :: ·) := by
  cases l with
  | nil => exact absurd rfl h0
  | cons b l =>
    have h1 := (ustep_some h0).2.2.2.1
    unfold pts
    simp only [List.length_cons, ptsN]
    rw [if_neg h0, ptsN_enough l.length _ _ (by simp; omega) (Nat.le_refl _)]
theorem pts_enc {v : Int} (hp : isPt v = true) (r : Bytes) : pts (enc v ++ r) = (pts r).map (v :: ·) := by
  have hu := ustep_enc hp r
  have hz := psz_bd v
  rw [pts_step (by rw [hu]; simp only; omega), hu]
  simp only
  have he := enc_length v
  rw [List.drop_append_of_le_length (by omega), List.drop_of_length_le (by omega), List.nil_append]
/-- the text of code points -/
def txt (l : List Int) : Bytes := l.flatMap enc
theorem txt_nil : txt [] = [] := rfl
theorem txt_cons (v : Int) (l : List Int) : txt (v :: l) = enc v ++ txt l := by simp [txt]
theorem txt_append (a b : List Int) : txt (a ++ b) = txt a ++ txt b := by simp [txt]
theorem pts_txt : ∀ {l : List Int}, (∀ v ∈ l, isPt v = true) → pts (txt l) = some l
  | [], _ => rfl
  | v :: l, h => by
    rw [txt_cons, pts_enc (h v (List.mem_cons_self ..)), pts_txt fun v hv => h v (List.mem_cons_of_mem _ hv)]
    rfl
theorem pts_spec (n : Nat) : ∀ {l : Bytes} {ps : List Int}, l.length ≤ n → pts l = some ps → (∀ v ∈ ps, isPt v = true) ∧ txt ps = l := by
  induction n with
  | zero =>
    intro l ps hn h
    have hl : l = [] := List.eq_nil_of_length_eq_zero (by omega)
    subst hl
    rw [pts_nil] at h
    obtain rfl := Option.some.inj h
    exact ⟨fun v hv => absurd hv (List.not_mem_nil), rfl⟩
  | succ n ih =>
    intro l ps hn h
    by_cases hl : l = []
    · subst hl
      rw [pts_nil] at h
      obtain rfl := Option.some.inj h
      exact ⟨fun v hv => absurd hv (List.not_mem_nil), rfl⟩
    by_cases h0 : (ustep l).2 = 0
    · rw [pts_none hl h0] at h; cases h
    · rw [pts_step h0] at h
      obtain ⟨h1, h2, h3, h4, h5⟩ := ustep_some h0
      obtain ⟨ps', hp, rfl⟩ := Option.map_eq_some_iff.1 h
      obtain ⟨h6, h7⟩ := ih (by simp; omega) hp
      refine ⟨fun v hv => ?_, ?_⟩
      · rcases List.mem_cons.1 hv with rfl | hv
        · exact h1
        · exact h6 v hv
      · rw [txt_cons, h7, ← h5, List.take_append_drop]
theorem pts_valid {l : Bytes} {ps : List Int} (h : pts l = some ps) : ∀ v ∈ ps, isPt v = true := (pts_spec _ (Nat.le_refl _) h).1
theorem pts_back {l : Bytes} {ps : List Int} (h : pts l = some ps) : txt ps = l := (pts_spec _ (Nat.le_refl _) h).2
theorem enc_pos (v : Int) : 1 ≤ (enc v).length := by have := enc_length v; have := psz_bd v; omega
theorem txt_length_le : ∀ l : List Int, l.length ≤ (txt l).length
  | [] => Nat.le_refl _
  | v :: l => by rw [txt_cons]; have := enc_pos v; have := txt_length_le l; simp; omega
theorem txt_length_ge : ∀ l : List Int, (txt l).length ≤ 4 * l.length
  | [] => Nat.le_refl _
  | v :: l => by rw [txt_cons]; have := enc_length v; have := psz_bd v; have := txt_length_ge l; simp; omega
theorem pts_length_le {l : Bytes} {ps : List Int} (h : pts l = some ps) : ps.length ≤ l.length := by rw [← pts_back h]; exact txt_length_le ps
end Ox
