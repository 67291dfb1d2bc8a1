/- Contracts of oxbowref01: bytes, first. -/
import Derived.Test.YtdhpbfmamkndjaaTextC
namespace Go.Proofs.Ytdhpbfmamkndjaa.Text
open Go.RowKit Ox
set_option linter.unusedVariables false
set_option linter.unusedSimpArgs false

theorem read_new {w : World} {e : TypeId} {l : Bytes} {cs : List Value} {n : Nat} (h : bvs l = cs) (hn : l.length = n) (h0 : 0 < n) : Reads (w.alloc (.cells cs.toArray e)) (w.heap.size + 1) 1 (some ⟨w.heap.size, 0, none⟩) n (bvs l) := by
  subst h; subst hn
  exact reads_new w e l h0
def Str (l : Bytes) (w : World) (e : Ending) (w' : World) : Prop := e = .returned (.string ⟨l.toArray⟩) ∧ Below w.heap.size w w'
set_option maxRecDepth 100000 in
theorem bytes_1 (x : Int) (w : World) (h0 : 0 ≤ x) (h1 : x < 128) : Calls Try.prog 120 #[.int .i64 x] w (Str [ub (x)] w) := by
  have hr := Lib.hid (read_new (w := w) (e := 5) (l := [ub (x)]) (cs := [.int .u8 (x)]) (n := 1) (by simp [bvs, ub_toNat (show 0 ≤ x by omega) (by omega)]) rfl (by omega))
  go_enter Try.func120, Try.ntmps120
  go_wp2_with (refine wpList_toStr (.tmp 8) 107 9 5 rfl rfl Try.underlying107 Try.underlying9 Try.underlying5 rfl hr.out ?_)
  go_ret
  exact ⟨rfl, (Below.refl _ _).alloc (Nat.le_refl _) _⟩
set_option maxRecDepth 100000 in
theorem bytes_2 (x : Int) (w : World) (h0 : 128 ≤ x) (h1 : x < 2048) : Calls Try.prog 120 #[.int .i64 x] w (Str [ub (192 + x / 64), ub (128 + x % 64)] w) := by
  have hr := Lib.hid (read_new (w := w) (e := 5) (l := [ub (192 + x / 64), ub (128 + x % 64)]) (cs := [.int .u8 (192 + x / 64), .int .u8 (128 + x % 64)]) (n := 2) (by simp [bvs, ub_toNat (show 0 ≤ 192 + x / 64 by omega) (by omega), ub_toNat (show 0 ≤ 128 + x % 64 by omega) (by omega)]) rfl (by omega))
  go_enter Try.func120, Try.ntmps120
  go_wp2_with (refine wpList_toStr (.tmp 21) 107 9 5 rfl rfl Try.underlying107 Try.underlying9 Try.underlying5 rfl hr.out ?_)
  go_ret
  exact ⟨rfl, (Below.refl _ _).alloc (Nat.le_refl _) _⟩
set_option maxRecDepth 100000 in
theorem bytes_3 (x : Int) (w : World) (h0 : 2048 ≤ x) (h1 : x < 65536) : Calls Try.prog 120 #[.int .i64 x] w (Str [ub (224 + x / 4096), ub (128 + x / 64 % 64), ub (128 + x % 64)] w) := by
  have hr := Lib.hid (read_new (w := w) (e := 5) (l := [ub (224 + x / 4096), ub (128 + x / 64 % 64), ub (128 + x % 64)]) (cs := [.int .u8 (224 + x / 4096), .int .u8 (128 + x / 64 % 64), .int .u8 (128 + x % 64)]) (n := 3) (by simp [bvs, ub_toNat (show 0 ≤ 224 + x / 4096 by omega) (by omega), ub_toNat (show 0 ≤ 128 + x / 64 % 64 by omega) (by omega), ub_toNat (show 0 ≤ 128 + x % 64 by omega) (by omega)]) rfl (by omega))
  go_enter Try.func120, Try.ntmps120
  go_wp2_with (refine wpList_toStr (.tmp 39) 107 9 5 rfl rfl Try.underlying107 Try.underlying9 Try.underlying5 rfl hr.out ?_)
  go_ret
  exact ⟨rfl, (Below.refl _ _).alloc (Nat.le_refl _) _⟩
set_option maxRecDepth 100000 in
theorem bytes_4 (x : Int) (w : World) (h0 : 65536 ≤ x) (h1 : x < 1114112) : Calls Try.prog 120 #[.int .i64 x] w (Str [ub (240 + x / 262144), ub (128 + x / 4096 % 64), ub (128 + x / 64 % 64), ub (128 + x % 64)] w) := by
  have hr := Lib.hid (read_new (w := w) (e := 5) (l := [ub (240 + x / 262144), ub (128 + x / 4096 % 64), ub (128 + x / 64 % 64), ub (128 + x % 64)]) (cs := [.int .u8 (240 + x / 262144), .int .u8 (128 + x / 4096 % 64), .int .u8 (128 + x / 64 % 64), .int .u8 (128 + x % 64)]) (n := 4) (by simp [bvs, ub_toNat (show 0 ≤ 240 + x / 262144 by omega) (by omega), ub_toNat (show 0 ≤ 128 + x / 4096 % 64 by omega) (by omega), ub_toNat (show 0 ≤ 128 + x / 64 % 64 by omega) (by omega), ub_toNat (show 0 ≤ 128 + x % 64 by omega) (by omega)]) rfl (by omega))
  go_enter Try.func120, Try.ntmps120
  go_wp2_with (refine wpList_toStr (.tmp 59) 107 9 5 rfl rfl Try.underlying107 Try.underlying9 Try.underlying5 rfl hr.out ?_)
  go_ret
  exact ⟨rfl, (Below.refl _ _).alloc (Nat.le_refl _) _⟩
theorem bytes_any (x : Int) (w : World) (hp : isPt x = true) : Calls Try.prog 120 #[.int .i64 x] w (Str (enc x) w) := by
  obtain ⟨h0, h1, _⟩ := (isPt_iff x).1 hp
  unfold enc
  by_cases c1 : x < 128
  · rw [if_pos c1]; exact bytes_1 x w h0 c1
  · rw [if_neg c1]
    by_cases c2 : x < 2048
    · rw [if_pos c2]; exact bytes_2 x w (by omega) c2
    · rw [if_neg c2]
      by_cases c3 : x < 65536
      · rw [if_pos c3]; exact bytes_3 x w (by omega) c3
      · rw [if_neg c3]; exact bytes_4 x w (by omega) (by omega)
end Go.Proofs.Ytdhpbfmamkndjaa.Text
