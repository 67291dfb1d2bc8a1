/- Contracts of package text and of the reference oxbowref01. -/
import Derived.Test.YtdhpbfmamkndjaaTextA
namespace Go.Proofs.Ytdhpbfmamkndjaa.Text
open Go.RowKit Ox
set_option linter.unusedVariables false
set_option linter.unusedSimpArgs false

/-- text.take: the first code point, and how many bytes it has -/
theorem take_any (s : ByteArray) (w : World) (h0 : 0 < s.size) (hs : s.size ≤ 140737488351232) :
    Calls Try.prog 112 #[.string s] w (Took (ustep s.data.toList).1 (ustep s.data.toList).2 w) := by
  have hl : s.data.toList.length = s.size := by simp
  have e0 := at_bat s 0 h0
  have a0 := byte_bd s 0 h0
  have ez : ¬ s.data.toList.length = 0 := by omega
  by_cases c1 : (s[0].toNat : Int) < 128
  · have hst : ustep s.data.toList = ((s[0].toNat : Int), 1) := by
      unfold ustep; rw [← e0, if_neg ez, if_pos c1]
    rw [hst]; exact take_1 s w h0 c1
  by_cases c2 : (s[0].toNat : Int) / 32 = 6
  · have c2' : ((s[0].toNat : Int) / 32 == 6) = true := beq_iff_eq.2 c2
    by_cases hz : 2 ≤ s.size
    · have e1 := at_bat s 1 (by omega)
      have hst : ustep s.data.toList = if (s[1].toNat : Int) / 64 = 2 then vld ((s[0].toNat : Int) % 32 * 64 + (s[1].toNat : Int) % 64) 2 else (0, 0) := by
        unfold ustep; rw [← e0, ← e1, if_neg ez, if_neg c1, if_pos c2, hl]; simp only [hz, true_and]; rfl
      rw [hst]
      by_cases d1 : (s[1].toNat : Int) / 64 = 2
      · rw [if_pos d1]; exact take_2 s w hz c2' hs (by simp [d1])
      · rw [if_neg d1]; exact take_2x1 s w hz c2' hs (by simpa using d1)
    · have hst : ustep s.data.toList = (0, 0) := by
        unfold ustep; rw [← e0, if_neg ez, if_neg c1, if_pos c2, if_neg (by omega)]
      rw [hst]; exact take_2s s w h0 (by omega) c2'
  by_cases c3 : (s[0].toNat : Int) / 16 = 14
  · have c3' : ((s[0].toNat : Int) / 16 == 14) = true := beq_iff_eq.2 c3
    by_cases hz : 3 ≤ s.size
    · have e1 := at_bat s 1 (by omega)
      have e2 := at_bat s 2 (by omega)
      have hst : ustep s.data.toList = if (s[1].toNat : Int) / 64 = 2 ∧ (s[2].toNat : Int) / 64 = 2 then vld (((s[0].toNat : Int) % 16 * 64 + (s[1].toNat : Int) % 64) * 64 + (s[2].toNat : Int) % 64) 3 else (0, 0) := by
        unfold ustep; rw [← e0, ← e1, ← e2, if_neg ez, if_neg c1, if_neg c2, if_pos c3, hl]; simp only [hz, true_and]; rfl
      rw [hst]
      by_cases d1 : (s[1].toNat : Int) / 64 = 2
      · by_cases d2 : (s[2].toNat : Int) / 64 = 2
        · rw [if_pos ⟨d1, d2⟩]; exact take_3 s w hz c3' hs (by simp [d1]) (by simp [d2])
        · rw [if_neg (fun h => d2 h.2)]; exact take_3x2 s w hz c3' hs (by simp [d1]) (by simpa using d2)
      · rw [if_neg (fun h => d1 h.1)]; exact take_3x1 s w hz c3' hs (by simpa using d1)
    · have hst : ustep s.data.toList = (0, 0) := by
        unfold ustep; rw [← e0, if_neg ez, if_neg c1, if_neg c2, if_pos c3, if_neg (by omega)]
      rw [hst]; exact take_3s s w h0 (by omega) c3'
  by_cases c4 : (s[0].toNat : Int) / 8 = 30
  · have c4' : ((s[0].toNat : Int) / 8 == 30) = true := beq_iff_eq.2 c4
    by_cases hz : 4 ≤ s.size
    · have e1 := at_bat s 1 (by omega)
      have e2 := at_bat s 2 (by omega)
      have e3 := at_bat s 3 (by omega)
      have hst : ustep s.data.toList = if (s[1].toNat : Int) / 64 = 2 ∧ (s[2].toNat : Int) / 64 = 2 ∧ (s[3].toNat : Int) / 64 = 2 then vld ((((s[0].toNat : Int) % 8 * 64 + (s[1].toNat : Int) % 64) * 64 + (s[2].toNat : Int) % 64) * 64 + (s[3].toNat : Int) % 64) 4 else (0, 0) := by
        unfold ustep; rw [← e0, ← e1, ← e2, ← e3, if_neg ez, if_neg c1, if_neg c2, if_neg c3, if_pos c4, hl]; simp only [hz, true_and]; rfl
      rw [hst]
      by_cases d1 : (s[1].toNat : Int) / 64 = 2
      · by_cases d2 : (s[2].toNat : Int) / 64 = 2
        · by_cases d3 : (s[3].toNat : Int) / 64 = 2
          · rw [if_pos ⟨d1, d2, d3⟩]; exact take_4 s w hz c4' hs (by simp [d1]) (by simp [d2]) (by simp [d3])
          · rw [if_neg (fun h => d3 h.2.2)]; exact take_4x3 s w hz c4' hs (by simp [d1]) (by simp [d2]) (by simpa using d3)
        · rw [if_neg (fun h => d2 h.2.1)]; exact take_4x2 s w hz c4' hs (by simp [d1]) (by simpa using d2)
      · rw [if_neg (fun h => d1 h.1)]; exact take_4x1 s w hz c4' hs (by simpa using d1)
    · have hst : ustep s.data.toList = (0, 0) := by
        unfold ustep; rw [← e0, if_neg ez, if_neg c1, if_neg c2, if_neg c3, if_pos c4, if_neg (by omega)]
      rw [hst]; exact take_4s s w h0 (by omega) c4'
  · have hst : ustep s.data.toList = (0, 0) := by
      unfold ustep; rw [← e0, if_neg ez, if_neg c1, if_neg c2, if_neg c3, if_neg c4]
    rw [hst]; exact take_no s w h0 (by omega) (by simpa using c2) (by simpa using c3) (by simpa using c4)
end Go.Proofs.Ytdhpbfmamkndjaa.Text
