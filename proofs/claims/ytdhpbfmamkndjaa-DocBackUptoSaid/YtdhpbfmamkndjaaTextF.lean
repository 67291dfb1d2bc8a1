/- Contracts of oxbowref01: first, whatever the text. -/
import Derived.Test.YtdhpbfmamkndjaaTextE
namespace Go.Proofs.Ytdhpbfmamkndjaa.Text
open Go.RowKit Ox
set_option linter.unusedVariables false
set_option linter.unusedSimpArgs false

theorem first_any (s : ByteArray) (w : World) (h0 : 0 < s.size) (hs : s.size ≤ 140737488351232) : Calls Try.prog 111 #[.string s] w (TookB (ustep s.data.toList) w) := by
  have hl : s.data.toList.length = s.size := by simp
  have e0 := at_bat s 0 h0
  have a0 := byte_bd s 0 h0
  have dec : ∀ (v : Int), isPt v = true ∨ isPt v = false := fun v => by cases isPt v <;> simp
  by_cases c1 : (s[0].toNat : Int) < (192 : Int)
  · rw [← fst1_a (l := s.data.toList) (by omega) (by omega), ← e0]
    rcases dec (s[0].toNat : Int) with h | h
    · exact first_ay s w h0 c1 hs h
    · exact first_an s w h0 c1 hs h
  by_cases c2 : (s[0].toNat : Int) < (224 : Int)
  · by_cases hz : 2 ≤ s.size
    · rw [← fst1_2 (l := s.data.toList) (by omega) (by omega) (by omega), ← e0, ← at_bat s 1 (by omega)]
      rcases dec (((s[0].toNat : Int) - (192 : Int)) * (64 : Int) + (s[1].toNat : Int) % (64 : Int)) with h | h
      · exact first_2y s w hz (by omega) c2 hs h
      · exact first_2n s w hz (by omega) c2 hs h
    · rw [← step_short (l := s.data.toList) (by omega) (by omega)]
      exact first_2s s w h0 (by omega) (by omega) c2
  by_cases c3 : (s[0].toNat : Int) < (240 : Int)
  · by_cases hz : 3 ≤ s.size
    · rw [← fst1_3 (l := s.data.toList) (by omega) (by omega) (by omega), ← e0, ← at_bat s 1 (by omega), ← at_bat s 2 (by omega)]
      rcases dec ((((s[0].toNat : Int) - (224 : Int)) * (64 : Int) + (s[1].toNat : Int) % (64 : Int)) * (64 : Int) + (s[2].toNat : Int) % (64 : Int)) with h | h
      · exact first_3y s w hz (by omega) c3 hs h
      · exact first_3n s w hz (by omega) c3 hs h
    · rw [← step_short (l := s.data.toList) (by omega) (by omega)]
      exact first_3s s w h0 (by omega) (by omega) c3
  by_cases c4 : (s[0].toNat : Int) < (248 : Int)
  · by_cases hz : 4 ≤ s.size
    · rw [← fst1_4 (l := s.data.toList) (by omega) (by omega) (by omega), ← e0, ← at_bat s 1 (by omega), ← at_bat s 2 (by omega), ← at_bat s 3 (by omega)]
      rcases dec (((((s[0].toNat : Int) - (240 : Int)) * (64 : Int) + (s[1].toNat : Int) % (64 : Int)) * (64 : Int) + (s[2].toNat : Int) % (64 : Int)) * (64 : Int) + (s[3].toNat : Int) % (64 : Int)) with h | h
      · exact first_4y s w hz (by omega) c4 hs h
      · exact first_4n s w hz (by omega) c4 hs h
    · rw [← step_short (l := s.data.toList) (by omega) (by omega)]
      exact first_4s s w h0 (by omega) (by omega) c4
  · rw [← fst1_a (l := s.data.toList) (by omega) (by omega), ← e0]
    rcases dec (s[0].toNat : Int) with h | h
    · exact first_by s w h0 (by omega) hs h
    · exact first_bn s w h0 (by omega) hs h
end Go.Proofs.Ytdhpbfmamkndjaa.Text
