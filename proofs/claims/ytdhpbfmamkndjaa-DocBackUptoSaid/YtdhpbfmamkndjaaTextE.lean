/- Contracts of oxbowref01: first. -/
import Derived.Test.YtdhpbfmamkndjaaTextD
import Derived.Test.YtdhpbfmamkndjaaTxB
namespace Go.Proofs.Ytdhpbfmamkndjaa.Text
open Go.RowKit Ox
set_option linter.unusedVariables false
set_option linter.unusedSimpArgs false

theorem extract_toList (s : ByteArray) (k : Nat) : (s.extract 0 k).toList = s.data.toList.take k := by
  rw [ByteArray.toList_eq, ByteArray.data_extract, Array.toList_extract]
  simp
def TookB (p : Int × Int) (w : World) (e : Ending) (w' : World) : Prop := e = .returned (.tuple #[.int .i64 p.1, .int .i64 p.2]) ∧ Below w.heap.size w w'
theorem below_drew' {w w1 : World} (hb : Below w.drew.heap.size w.drew w1) : Below w.heap.size w w1 := (Below.refl _ _).drew.trans hb
theorem tookB {p : Int × Int} {a b : Int} {w w' : World} (h : (a, b) = p) (hb : Below w.heap.size w w') : TookB p w (.returned (.tuple #[.int .i64 a, .int .i64 b])) w' := by rw [← h]; exact ⟨rfl, hb⟩
theorem fst1_no {v n : Int} {l : Bytes} (h : (!isPt v) = true) : ((0 : Int), (0 : Int)) = fst1 v n l := by unfold fst1; rw [if_neg (fun hh => by rw [hh.1] at h; cases h)]
theorem fst1_ne {v : Int} {n : Nat} {s : ByteArray} (h : (!enc v == (s.extract 0 n).toList) = true) : ((0 : Int), (0 : Int)) = fst1 v n s.data.toList := by
  unfold fst1
  rw [if_neg (fun hh => by rw [extract_toList, hh.2] at h; simp at h)]
theorem fst1_eq {v : Int} {n : Nat} {s : ByteArray} (hp : isPt v = true) (h : (!enc v == (s.extract 0 n).toList) = false) : (v, (n : Int)) = fst1 v n s.data.toList := by
  unfold fst1
  rw [extract_toList] at h
  rw [if_pos ⟨hp, by simpa using h⟩]
set_option maxRecDepth 100000 in
theorem first_ay (s : ByteArray) (w : World) (h0 : 1 ≤ s.size) (h1 : (s[0].toNat : Int) < 192) (hs : s.size ≤ 140737488351232) (hp : isPt ((s[0].toNat : Int)) = true) :
    Calls Try.prog 111 #[.string s] w (TookB (fst1 ((s[0].toNat : Int)) (1 : Nat) s.data.toList) w) := by
  have a0 := byte_bd s 0 (by omega)
  go_enter Try.func111, Try.ntmps111
  go_wp2
  refine wp_loop_rounds 1 ?_
  repeat (rw [rounds_succ]; go_wp2)
  refine wp_region_text (by kernel_rfl) (by kernel_rfl) ?_
  go_wp2_with (first
    | (go_at_call 119; refine (point_any _ _).mono ?_; rintro e w' ⟨rfl, rfl⟩)
    | (go_at_call 120; refine (bytes_any _ _ hp).mono ?_; rintro e w1 ⟨rfl, hb⟩))
  refine FinQ.intro (by kernel_rfl) ?_
  go_wp2
  · go_ret2
    exact tookB (fst1_ne (by assumption)) (below_drew' hb)
  · go_ret2
    exact tookB (fst1_eq hp (by assumption)) (below_drew' hb)
set_option maxRecDepth 100000 in
theorem first_an (s : ByteArray) (w : World) (h0 : 1 ≤ s.size) (h1 : (s[0].toNat : Int) < 192) (hs : s.size ≤ 140737488351232) (hp : isPt ((s[0].toNat : Int)) = false) :
    Calls Try.prog 111 #[.string s] w (TookB (fst1 ((s[0].toNat : Int)) (1 : Nat) s.data.toList) w) := by
  have a0 := byte_bd s 0 (by omega)
  go_enter Try.func111, Try.ntmps111
  go_wp2
  refine wp_loop_rounds 1 ?_
  repeat (rw [rounds_succ]; go_wp2)
  refine wp_region_text (by kernel_rfl) (by kernel_rfl) ?_
  go_wp2_with (go_at_call 119; refine (point_any _ _).mono ?_; rintro e w' ⟨rfl, rfl⟩)
  refine FinQ.intro (by kernel_rfl) ?_
  go_wp2
  go_ret2
  exact tookB (fst1_no (by rw [hp]; rfl)) (Below.refl _ _).drew
set_option maxRecDepth 100000 in
theorem first_by (s : ByteArray) (w : World) (h0 : 1 ≤ s.size) (h1 : (248 : Int) ≤ (s[0].toNat : Int)) (hs : s.size ≤ 140737488351232) (hp : isPt ((s[0].toNat : Int)) = true) :
    Calls Try.prog 111 #[.string s] w (TookB (fst1 ((s[0].toNat : Int)) (1 : Nat) s.data.toList) w) := by
  have a0 := byte_bd s 0 (by omega)
  go_enter Try.func111, Try.ntmps111
  go_wp2
  refine wp_loop_rounds 1 ?_
  repeat (rw [rounds_succ]; go_wp2)
  refine wp_region_text (by kernel_rfl) (by kernel_rfl) ?_
  go_wp2_with (first
    | (go_at_call 119; refine (point_any _ _).mono ?_; rintro e w' ⟨rfl, rfl⟩)
    | (go_at_call 120; refine (bytes_any _ _ hp).mono ?_; rintro e w1 ⟨rfl, hb⟩))
  refine FinQ.intro (by kernel_rfl) ?_
  go_wp2
  · go_ret2
    exact tookB (fst1_ne (by assumption)) (below_drew' hb)
  · go_ret2
    exact tookB (fst1_eq hp (by assumption)) (below_drew' hb)
set_option maxRecDepth 100000 in
theorem first_bn (s : ByteArray) (w : World) (h0 : 1 ≤ s.size) (h1 : (248 : Int) ≤ (s[0].toNat : Int)) (hs : s.size ≤ 140737488351232) (hp : isPt ((s[0].toNat : Int)) = false) :
    Calls Try.prog 111 #[.string s] w (TookB (fst1 ((s[0].toNat : Int)) (1 : Nat) s.data.toList) w) := by
  have a0 := byte_bd s 0 (by omega)
  go_enter Try.func111, Try.ntmps111
  go_wp2
  refine wp_loop_rounds 1 ?_
  repeat (rw [rounds_succ]; go_wp2)
  refine wp_region_text (by kernel_rfl) (by kernel_rfl) ?_
  go_wp2_with (go_at_call 119; refine (point_any _ _).mono ?_; rintro e w' ⟨rfl, rfl⟩)
  refine FinQ.intro (by kernel_rfl) ?_
  go_wp2
  go_ret2
  exact tookB (fst1_no (by rw [hp]; rfl)) (Below.refl _ _).drew
set_option maxRecDepth 100000 in
theorem first_2y (s : ByteArray) (w : World) (h0 : 2 ≤ s.size) (h1 : (192 : Int) ≤ (s[0].toNat : Int)) (h2 : (s[0].toNat : Int) < 224) (hs : s.size ≤ 140737488351232) (hp : isPt (((s[0].toNat : Int) - (192 : Int)) * (64 : Int) + (s[1].toNat : Int) % (64 : Int)) = true) :
    Calls Try.prog 111 #[.string s] w (TookB (fst1 (((s[0].toNat : Int) - (192 : Int)) * (64 : Int) + (s[1].toNat : Int) % (64 : Int)) (2 : Nat) s.data.toList) w) := by
  have a0 := byte_bd s 0 (by omega)
  have a1 := byte_bd s 1 (by omega)
  go_enter Try.func111, Try.ntmps111
  go_wp2
  refine wp_loop_rounds 2 ?_
  repeat (rw [rounds_succ]; go_wp2)
  refine wp_region_text (by kernel_rfl) (by kernel_rfl) ?_
  go_wp2_with (first
    | (go_at_call 119; refine (point_any _ _).mono ?_; rintro e w' ⟨rfl, rfl⟩)
    | (go_at_call 120; refine (bytes_any _ _ hp).mono ?_; rintro e w1 ⟨rfl, hb⟩))
  refine FinQ.intro (by kernel_rfl) ?_
  go_wp2
  · go_ret2
    exact tookB (fst1_ne (by assumption)) (below_drew' hb)
  · go_ret2
    exact tookB (fst1_eq hp (by assumption)) (below_drew' hb)
set_option maxRecDepth 100000 in
theorem first_2n (s : ByteArray) (w : World) (h0 : 2 ≤ s.size) (h1 : (192 : Int) ≤ (s[0].toNat : Int)) (h2 : (s[0].toNat : Int) < 224) (hs : s.size ≤ 140737488351232) (hp : isPt (((s[0].toNat : Int) - (192 : Int)) * (64 : Int) + (s[1].toNat : Int) % (64 : Int)) = false) :
    Calls Try.prog 111 #[.string s] w (TookB (fst1 (((s[0].toNat : Int) - (192 : Int)) * (64 : Int) + (s[1].toNat : Int) % (64 : Int)) (2 : Nat) s.data.toList) w) := by
  have a0 := byte_bd s 0 (by omega)
  have a1 := byte_bd s 1 (by omega)
  go_enter Try.func111, Try.ntmps111
  go_wp2
  refine wp_loop_rounds 2 ?_
  repeat (rw [rounds_succ]; go_wp2)
  refine wp_region_text (by kernel_rfl) (by kernel_rfl) ?_
  go_wp2_with (go_at_call 119; refine (point_any _ _).mono ?_; rintro e w' ⟨rfl, rfl⟩)
  refine FinQ.intro (by kernel_rfl) ?_
  go_wp2
  go_ret2
  exact tookB (fst1_no (by rw [hp]; rfl)) (Below.refl _ _).drew
set_option maxRecDepth 100000 in
theorem first_2s (s : ByteArray) (w : World) (h0 : 1 ≤ s.size) (h0' : s.size < 2) (h1 : (192 : Int) ≤ (s[0].toNat : Int)) (h2 : (s[0].toNat : Int) < 224) :
    Calls Try.prog 111 #[.string s] w (TookB (0, 0) w) := by
  have a0 := byte_bd s 0 (by omega)
  go_enter Try.func111, Try.ntmps111
  go_wp2
  go_ret2
  exact tookB rfl (Below.refl _ _)
set_option maxRecDepth 100000 in
theorem first_3y (s : ByteArray) (w : World) (h0 : 3 ≤ s.size) (h1 : (224 : Int) ≤ (s[0].toNat : Int)) (h2 : (s[0].toNat : Int) < 240) (hs : s.size ≤ 140737488351232) (hp : isPt ((((s[0].toNat : Int) - (224 : Int)) * (64 : Int) + (s[1].toNat : Int) % (64 : Int)) * (64 : Int) + (s[2].toNat : Int) % (64 : Int)) = true) :
    Calls Try.prog 111 #[.string s] w (TookB (fst1 ((((s[0].toNat : Int) - (224 : Int)) * (64 : Int) + (s[1].toNat : Int) % (64 : Int)) * (64 : Int) + (s[2].toNat : Int) % (64 : Int)) (3 : Nat) s.data.toList) w) := by
  have a0 := byte_bd s 0 (by omega)
  have a1 := byte_bd s 1 (by omega)
  have a2 := byte_bd s 2 (by omega)
  go_enter Try.func111, Try.ntmps111
  go_wp2
  refine wp_loop_rounds 3 ?_
  repeat (rw [rounds_succ]; go_wp2)
  refine wp_region_text (by kernel_rfl) (by kernel_rfl) ?_
  go_wp2_with (first
    | (go_at_call 119; refine (point_any _ _).mono ?_; rintro e w' ⟨rfl, rfl⟩)
    | (go_at_call 120; refine (bytes_any _ _ hp).mono ?_; rintro e w1 ⟨rfl, hb⟩))
  refine FinQ.intro (by kernel_rfl) ?_
  go_wp2
  · go_ret2
    exact tookB (fst1_ne (by assumption)) (below_drew' hb)
  · go_ret2
    exact tookB (fst1_eq hp (by assumption)) (below_drew' hb)
set_option maxRecDepth 100000 in
theorem first_3n (s : ByteArray) (w : World) (h0 : 3 ≤ s.size) (h1 : (224 : Int) ≤ (s[0].toNat : Int)) (h2 : (s[0].toNat : Int) < 240) (hs : s.size ≤ 140737488351232) (hp : isPt ((((s[0].toNat : Int) - (224 : Int)) * (64 : Int) + (s[1].toNat : Int) % (64 : Int)) * (64 : Int) + (s[2].toNat : Int) % (64 : Int)) = false) :
    Calls Try.prog 111 #[.string s] w (TookB (fst1 ((((s[0].toNat : Int) - (224 : Int)) * (64 : Int) + (s[1].toNat : Int) % (64 : Int)) * (64 : Int) + (s[2].toNat : Int) % (64 : Int)) (3 : Nat) s.data.toList) w) := by
  have a0 := byte_bd s 0 (by omega)
  have a1 := byte_bd s 1 (by omega)
  have a2 := byte_bd s 2 (by omega)
  go_enter Try.func111, Try.ntmps111
  go_wp2
  refine wp_loop_rounds 3 ?_
  repeat (rw [rounds_succ]; go_wp2)
  refine wp_region_text (by kernel_rfl) (by kernel_rfl) ?_
  go_wp2_with (go_at_call 119; refine (point_any _ _).mono ?_; rintro e w' ⟨rfl, rfl⟩)
  refine FinQ.intro (by kernel_rfl) ?_
  go_wp2
  go_ret2
  exact tookB (fst1_no (by rw [hp]; rfl)) (Below.refl _ _).drew
set_option maxRecDepth 100000 in
theorem first_3s (s : ByteArray) (w : World) (h0 : 1 ≤ s.size) (h0' : s.size < 3) (h1 : (224 : Int) ≤ (s[0].toNat : Int)) (h2 : (s[0].toNat : Int) < 240) :
    Calls Try.prog 111 #[.string s] w (TookB (0, 0) w) := by
  have a0 := byte_bd s 0 (by omega)
  go_enter Try.func111, Try.ntmps111
  go_wp2
  go_ret2
  exact tookB rfl (Below.refl _ _)
set_option maxRecDepth 100000 in
theorem first_4y (s : ByteArray) (w : World) (h0 : 4 ≤ s.size) (h1 : (240 : Int) ≤ (s[0].toNat : Int)) (h2 : (s[0].toNat : Int) < 248) (hs : s.size ≤ 140737488351232) (hp : isPt (((((s[0].toNat : Int) - (240 : Int)) * (64 : Int) + (s[1].toNat : Int) % (64 : Int)) * (64 : Int) + (s[2].toNat : Int) % (64 : Int)) * (64 : Int) + (s[3].toNat : Int) % (64 : Int)) = true) :
    Calls Try.prog 111 #[.string s] w (TookB (fst1 (((((s[0].toNat : Int) - (240 : Int)) * (64 : Int) + (s[1].toNat : Int) % (64 : Int)) * (64 : Int) + (s[2].toNat : Int) % (64 : Int)) * (64 : Int) + (s[3].toNat : Int) % (64 : Int)) (4 : Nat) s.data.toList) w) := by
  have a0 := byte_bd s 0 (by omega)
  have a1 := byte_bd s 1 (by omega)
  have a2 := byte_bd s 2 (by omega)
  have a3 := byte_bd s 3 (by omega)
  go_enter Try.func111, Try.ntmps111
  go_wp2
  refine wp_loop_rounds 4 ?_
  repeat (rw [rounds_succ]; go_wp2)
  refine wp_region_text (by kernel_rfl) (by kernel_rfl) ?_
  go_wp2_with (first
    | (go_at_call 119; refine (point_any _ _).mono ?_; rintro e w' ⟨rfl, rfl⟩)
    | (go_at_call 120; refine (bytes_any _ _ hp).mono ?_; rintro e w1 ⟨rfl, hb⟩))
  refine FinQ.intro (by kernel_rfl) ?_
  go_wp2
  · go_ret2
    exact tookB (fst1_ne (by assumption)) (below_drew' hb)
  · go_ret2
    exact tookB (fst1_eq hp (by assumption)) (below_drew' hb)
set_option maxRecDepth 100000 in
theorem first_4n (s : ByteArray) (w : World) (h0 : 4 ≤ s.size) (h1 : (240 : Int) ≤ (s[0].toNat : Int)) (h2 : (s[0].toNat : Int) < 248) (hs : s.size ≤ 140737488351232) (hp : isPt (((((s[0].toNat : Int) - (240 : Int)) * (64 : Int) + (s[1].toNat : Int) % (64 : Int)) * (64 : Int) + (s[2].toNat : Int) % (64 : Int)) * (64 : Int) + (s[3].toNat : Int) % (64 : Int)) = false) :
    Calls Try.prog 111 #[.string s] w (TookB (fst1 (((((s[0].toNat : Int) - (240 : Int)) * (64 : Int) + (s[1].toNat : Int) % (64 : Int)) * (64 : Int) + (s[2].toNat : Int) % (64 : Int)) * (64 : Int) + (s[3].toNat : Int) % (64 : Int)) (4 : Nat) s.data.toList) w) := by
  have a0 := byte_bd s 0 (by omega)
  have a1 := byte_bd s 1 (by omega)
  have a2 := byte_bd s 2 (by omega)
  have a3 := byte_bd s 3 (by omega)
  go_enter Try.func111, Try.ntmps111
  go_wp2
  refine wp_loop_rounds 4 ?_
  repeat (rw [rounds_succ]; go_wp2)
  refine wp_region_text (by kernel_rfl) (by kernel_rfl) ?_
  go_wp2_with (go_at_call 119; refine (point_any _ _).mono ?_; rintro e w' ⟨rfl, rfl⟩)
  refine FinQ.intro (by kernel_rfl) ?_
  go_wp2
  go_ret2
  exact tookB (fst1_no (by rw [hp]; rfl)) (Below.refl _ _).drew
set_option maxRecDepth 100000 in
theorem first_4s (s : ByteArray) (w : World) (h0 : 1 ≤ s.size) (h0' : s.size < 4) (h1 : (240 : Int) ≤ (s[0].toNat : Int)) (h2 : (s[0].toNat : Int) < 248) :
    Calls Try.prog 111 #[.string s] w (TookB (0, 0) w) := by
  have a0 := byte_bd s 0 (by omega)
  go_enter Try.func111, Try.ntmps111
  go_wp2
  go_ret2
  exact tookB rfl (Below.refl _ _)
end Go.Proofs.Ytdhpbfmamkndjaa.Text
