/- Contracts: Points, of package text and of oxbowref01. -/
import Derived.Test.YtdhpbfmamkndjaaTextF
import Derived.Test.YtdhpbfmamkndjaaTxC
namespace Go.Proofs.Ytdhpbfmamkndjaa.Text
open Go.RowKit Ox
set_option linter.unusedVariables false
set_option linter.unusedSimpArgs false

def ints (l : List Int) : List Value := l.map (Value.int .i64)
theorem ints_one (l : List Int) : ∀ u ∈ ints l, u.oneCell' = true := by
  intro u hu
  obtain ⟨_, _, rfl⟩ := List.mem_map.1 hu
  rfl
theorem ints_length (l : List Int) : (ints l).length = l.length := by simp [ints]
theorem ints_snoc (l : List Int) (x : Int) : ints l ++ [.int .i64 x] = ints (l ++ [x]) := by simp [ints]
/-- numbers of the call's own -/
def OwnI (w : World) (B : Nat) (v : Value) (l : List Int) : Prop := w.ownsRow B 3 1 v l.length (ints l)
def Pts (r : Option (List Int)) (B : Nat) (w : World) (e : Ending) (w' : World) : Prop :=
  Below B w w' ∧ match r with
    | some l => ∃ v, e = .returned (.tuple #[v, .bool true]) ∧ OwnI w' B v l
    | none => e = .returned (.tuple #[.slice none 0 0, .bool false])
theorem toList_data (s : ByteArray) : s.toList = s.data.toList := ByteArray.toList_eq s
theorem drop_data (s : ByteArray) (k : Nat) : (s.extract k s.size).data.toList = s.data.toList.drop k := by
  rw [ByteArray.data_extract, Array.toList_extract, List.extract_eq_take_drop, List.take_of_length_le (by simp)]
/-- the loop's relation -/
structure PtsRel (s : ByteArray) (w : World) (x : ByteArray) (acc : List Int) (v : Value) (wr : World) : Prop where
  own : OwnI wr w.heap.size v acc
  below : Below w.heap.size w wr
  size : acc.length + x.size ≤ s.size
  eqn : pts s.data.toList = (pts x.data.toList).map (acc ++ ·)

theorem PtsRel.done {s : ByteArray} {w : World} {y : ByteArray} {acc : List Int} {v : Value} {wr : World} (h : PtsRel s w y acc v wr) (h0 : y.size = 0) : Pts (pts s.data.toList) w.heap.size w (.returned (.tuple #[v, .bool true])) wr := by
  refine ⟨h.below, ?_⟩
  have hy : y.data.toList = [] := List.eq_nil_of_length_eq_zero (by simpa using h0)
  rw [h.eqn, hy, pts_nil]
  exact ⟨v, rfl, by simpa using h.own⟩
theorem PtsRel.bad {s : ByteArray} {w : World} {y : ByteArray} {acc : List Int} {v : Value} {wr w' : World} (h : PtsRel s w y acc v wr) (h0 : y.size ≠ 0) (hu : (ustep y.data.toList).2 = 0) (hb : Below w.heap.size w w') : Pts (pts s.data.toList) w.heap.size w (.returned (.tuple #[.slice none 0 0, .bool false])) w' := by
  refine ⟨hb, ?_⟩
  rw [h.eqn, pts_none (fun e => h0 (by rw [← Array.length_toList] at *; simpa using congrArg List.length e)) hu]
  rfl
theorem PtsRel.step {s : ByteArray} {w : World} {y : ByteArray} {acc : List Int} {v v' : Value} {wr w' : World} (h : PtsRel s w y acc v wr) (hu : (ustep y.data.toList).2 ≠ 0) {k : Nat} (hk : (ustep y.data.toList).2 = k)
    (ho : w'.ownsRow w.heap.size 3 1 v' (acc.length + 1) (ints acc ++ [.int .i64 (ustep y.data.toList).1])) (hb : Below w.heap.size w w') :
    PtsRel s w (y.extract k y.size) (acc ++ [(ustep y.data.toList).1]) v' w' ∧ (y.extract k y.size).size < y.size := by
  obtain ⟨h1, h2, h3, h4, h5⟩ := ustep_some hu
  have hz : y.data.toList.length = y.size := by simp
  have hsz : (y.extract k y.size).size = y.size - k := by simp
  refine ⟨⟨?_, hb, by rw [hsz]; have := h.size; simp; omega, ?_⟩, by rw [hsz]; omega⟩
  · unfold OwnI
    rw [← ints_snoc]
    simpa using ho
  · rw [h.eqn, pts_step hu, hk, drop_data, Int.toNat_natCast]
    cases pts (List.drop k y.data.toList) <;> simp
set_option maxRecDepth 100000 in
theorem points_any (s : ByteArray) (w : World) (hs : s.size ≤ 10000000000000) : Calls Try.prog 78 #[.string s] w (Pts (pts s.data.toList) w.heap.size w) := by
  go_enter Try.func78, Try.ntmps78
  go_wp2
  go_loopw [0, 4] (fun x v wr => ∃ (y : ByteArray) (acc : List Int), x = .string y ∧ PtsRel s w y acc v wr) (fun x _ _ => match x with | .string y => y.size | _ => 0)
  case atStart => exact ⟨s, [], rfl, ⟨World.ownsRow_nil _ _ _ _, Below.refl _ _, by simp, by simp⟩⟩
  case round =>
    obtain ⟨y, acc, rfl, hr⟩ := hrel
    have hsz := hr.size
    by_cases hz : y.size = 0
    · have hE : y.toList = [] := by rw [toList_data]; exact List.eq_nil_of_length_eq_zero (by simpa using hz)
      go_wp2
      go_ret2
      exact hr.done hz
    · have hE : y.toList.isEmpty = false := by rw [toList_data, List.isEmpty_eq_false_iff]; intro e; exact hz (by simpa using congrArg List.length e)
      by_cases hu : (ustep y.data.toList).2 = 0
      · have HU := Lib.hid hu
        have hub : ((ustep y.data.toList).2 == 0) = true := beq_iff_eq.2 hu
        clear hu
        go_wp2_with (go_at_call 112; refine (take_any _ _ (by omega) (by omega)).mono ?_; rintro e w' ⟨rfl, rfl⟩)
        go_ret2
        exact hr.bad hz HU.out hr.below
      · have HU := Lib.hid hu
        have hub : ((ustep y.data.toList).2 == 0) = false := beq_eq_false_iff_ne.2 hu
        obtain ⟨h1, h2, h3, h4, h5⟩ := ustep_some hu
        have hl : y.data.toList.length = y.size := by simp
        have g0 : 0 ≤ (ustep y.data.toList).2 := by omega
        have g1 : (ustep y.data.toList).2 ≤ (y.size : Int) := by omega
        clear h5 h2 hu h1 h3 h4 hl
        go_wp2_with (first
          | (go_at_call 112; refine (take_any _ _ (by omega) (by omega)).mono ?_; rintro e w' ⟨rfl, rfl⟩)
          | (at_builtin; refine wpList_push (.tmp 16) (.tmp 18) 29 3 1 8 [.int .i64 (ustep y.data.toList).1] rfl rfl Try.underlying29 info_int rfl (by decide) rfl rfl hr.own hr.below (Nat.le_refl _) hr.below.size rfl (by simp [Value.oneCell']) (by omega) (by omega) ?_))
        intro v1 w1 ho1 hb1 hl1 _
        go_wp2
        have hst := hr.step HU.out (k := (ustep y.data.toList).2.toNat) (by omega) ho1 hb1
        go_roundw
        case rel => exact ⟨_, _, rfl, hst.1⟩
        case measure => exact hst.2
set_option maxRecDepth 100000 in
theorem rpoints_any (s : ByteArray) (w : World) (hs : s.size ≤ 10000000000000) : Calls Try.prog 76 #[.string s] w (Pts (pts s.data.toList) w.heap.size w) := by
  go_enter Try.func76, Try.ntmps76
  go_wp2
  go_loopw [0, 4] (fun x v wr => ∃ (y : ByteArray) (acc : List Int), x = .string y ∧ PtsRel s w y acc v wr) (fun x _ _ => match x with | .string y => y.size | _ => 0)
  case atStart => exact ⟨s, [], rfl, ⟨World.ownsRow_nil _ _ _ _, Below.refl _ _, by simp, by simp⟩⟩
  case round =>
    obtain ⟨y, acc, rfl, hr⟩ := hrel
    have hsz := hr.size
    by_cases hz : y.size = 0
    · have hE : y.toList = [] := by rw [toList_data]; exact List.eq_nil_of_length_eq_zero (by simpa using hz)
      go_wp2
      go_ret2
      exact hr.done hz
    · have hE : y.toList.isEmpty = false := by rw [toList_data, List.isEmpty_eq_false_iff]; intro e; exact hz (by simpa using congrArg List.length e)
      by_cases hu : (ustep y.data.toList).2 = 0
      · have HU := Lib.hid hu
        have hub : ((ustep y.data.toList).2 == 0) = true := beq_iff_eq.2 hu
        clear hu
        go_wp2_with (go_at_call 111; refine (first_any _ _ (by omega) (by omega)).mono ?_; rintro e wf ⟨rfl, hbf⟩)
        go_ret2
        exact hr.bad hz HU.out (below_next hr.below hbf hr.below.size)
      · have HU := Lib.hid hu
        have hub : ((ustep y.data.toList).2 == 0) = false := beq_eq_false_iff_ne.2 hu
        obtain ⟨h1, h2, h3, h4, h5⟩ := ustep_some hu
        have hl : y.data.toList.length = y.size := by simp
        have g0 : 0 ≤ (ustep y.data.toList).2 := by omega
        have g1 : (ustep y.data.toList).2 ≤ (y.size : Int) := by omega
        clear h5 h2 hu h1 h3 h4 hl
        go_wp2_with (first
          | (go_at_call 111; refine (first_any _ _ (by omega) (by omega)).mono ?_; rintro e wf ⟨rfl, hbf⟩)
          | (at_builtin; refine wpList_push (.tmp 17) (.tmp 19) 29 3 1 8 [.int .i64 (ustep y.data.toList).1] rfl rfl Try.underlying29 info_int rfl (by decide) rfl rfl (own_below hr.own hbf) (below_next hr.below hbf hr.below.size) (Nat.le_refl _) (Nat.le_trans hr.below.size hbf.size) rfl (by simp [Value.oneCell']) (by omega) (by omega) ?_))
        intro v1 w1 ho1 hb1 hl1 _
        go_wp2
        have hst := hr.step HU.out (k := (ustep y.data.toList).2.toNat) (by omega) ho1 hb1
        go_roundw
        case rel => exact ⟨_, _, rfl, hst.1⟩
        case measure => exact hst.2
end Go.Proofs.Ytdhpbfmamkndjaa.Text
