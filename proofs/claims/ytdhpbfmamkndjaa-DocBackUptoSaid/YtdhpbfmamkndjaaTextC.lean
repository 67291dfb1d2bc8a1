/- Contracts of package text: put. -/
import Derived.Test.YtdhpbfmamkndjaaTextB
namespace Go.Proofs.Ytdhpbfmamkndjaa.Text
open Go.RowKit Ox
set_option linter.unusedVariables false
set_option linter.unusedSimpArgs false

theorem info_u8 : (Try.prog.info? 5).map (fun i => (i.zero, i.size, i.bytes)) = some (some (.int .u8 0), 1, 1) := by kernel_rfl
theorem info_int : (Try.prog.info? 3).map (fun i => (i.zero, i.size, i.bytes)) = some (some (.int .i64 0), 1, 8) := by kernel_rfl

def Put (B : Nat) (n : Nat) (xs : Bytes) (w : World) (e : Ending) (w' : World) : Prop :=
  ∃ v', e = .returned v' ∧ w'.ownsRow B 5 1 v' n (bvs xs) ∧ Below B w w'

set_option maxRecDepth 100000 in
theorem put_1 (B n : Nat) (v : Value) (xs : Bytes) (x : Int) (w : World) (hB : B ≤ w.heap.size) (hown : w.ownsRow B 5 1 v n (bvs xs)) (hn : n ≤ 100000000000000) (h0 : 0 ≤ x) (h1 : x < 128) (hk : psz x = 1) :
    Calls Try.prog 107 #[v, .int .i64 x] w (Put B (n + 1) (xs ++ [ub x]) w) := by
  go_enter Try.func107, Try.ntmps107
  go_wp2_with (first
    | (go_at_call 123; refine (size_any _ _).mono ?_; rintro e w' ⟨rfl, rfl⟩)
    | (at_builtin; refine wpList_push (.tmp 11) (.tmp 14) 107 5 1 1 [.int .u8 x] rfl rfl Try.underlying107 info_u8 rfl (by decide) rfl rfl hown (Below.refl B w) (Nat.le_refl _) hB rfl (by simp [Value.oneCell']) (by omega) (by omega) ?_))
  intro v' w' ho hb _ _
  go_wp2
  go_ret
  exact ⟨v', rfl, by rw [← bvs_snoc (ub_toNat h0 (by omega))]; exact ho, hb⟩

set_option maxRecDepth 100000 in
theorem put_2 (B n : Nat) (v : Value) (xs : Bytes) (x : Int) (w : World) (hB : B ≤ w.heap.size) (hown : w.ownsRow B 5 1 v n (bvs xs)) (hn : n ≤ 100000000000000) (h0 : 128 ≤ x) (h1 : x < 2048) (hk : psz x = 2) :
    Calls Try.prog 107 #[v, .int .i64 x] w (Put B (n + 1 + 1) (xs ++ [ub (192 + x / 64), ub (128 + x % 64)]) w) := by
  have hl : bvs (xs ++ [ub (192 + x / 64), ub (128 + x % 64)]) = bvs xs ++ [.int .u8 (192 + x / 64), .int .u8 (128 + x % 64)] := by simp [bvs, ub_toNat (show 0 ≤ 192 + x / 64 by omega) (by omega), ub_toNat (show 0 ≤ 128 + x % 64 by omega) (by omega)]
  have HL := Lib.hid hl
  clear hl
  go_enter Try.func107, Try.ntmps107
  go_wp2_with (first
    | (go_at_call 123; refine (size_any _ _).mono ?_; rintro e w' ⟨rfl, rfl⟩))
  refine wp_region_text (by kernel_rfl) (by kernel_rfl) ?_
  go_wp2_with (at_builtin; refine wpList_push (.tmp 16) (.tmp 27) 107 5 1 1 [.int .u8 (192 + x / 64)] rfl rfl Try.underlying107 info_u8 rfl (by decide) rfl rfl hown ((Below.refl B w).drew) (Nat.le_refl _) hB rfl (by simp [Value.oneCell']) (by omega) (by omega) ?_)
  intro v1 w1 ho1 hb1 hl1 _
  go_wp2
  refine FinQ.intro (by kernel_rfl) ?_
  go_wp2
  refine wp_loop_rounds 2 ?_
  rw [rounds_succ]
  go_wp2_with (at_builtin; refine wpList_push (.tmp 35) (.tmp 43) 107 5 1 1 [.int .u8 (128 + x % 64)] rfl rfl Try.underlying107 info_u8 rfl (by decide) rfl rfl ho1 hb1 (Nat.le_refl _) (by omega) rfl (by simp [Value.oneCell']) (by omega) (by omega) ?_)
  intro v2 w2 ho2 hb2 hl2 _
  go_wp2
  rw [rounds_succ]
  go_wp2
  go_ret
  exact ⟨v2, rfl, by rw [HL.out]; exact ho2, hb2⟩
set_option maxRecDepth 100000 in
theorem put_3 (B n : Nat) (v : Value) (xs : Bytes) (x : Int) (w : World) (hB : B ≤ w.heap.size) (hown : w.ownsRow B 5 1 v n (bvs xs)) (hn : n ≤ 100000000000000) (h0 : 2048 ≤ x) (h1 : x < 65536) (hk : psz x = 3) :
    Calls Try.prog 107 #[v, .int .i64 x] w (Put B (n + 1 + 1 + 1) (xs ++ [ub (224 + x / 4096), ub (128 + x / 64 % 64), ub (128 + x % 64)]) w) := by
  have hl : bvs (xs ++ [ub (224 + x / 4096), ub (128 + x / 64 % 64), ub (128 + x % 64)]) = bvs xs ++ [.int .u8 (224 + x / 4096), .int .u8 (128 + x / 64 % 64), .int .u8 (128 + x % 64)] := by simp [bvs, ub_toNat (show 0 ≤ 224 + x / 4096 by omega) (by omega), ub_toNat (show 0 ≤ 128 + x / 64 % 64 by omega) (by omega), ub_toNat (show 0 ≤ 128 + x % 64 by omega) (by omega)]
  have HL := Lib.hid hl
  clear hl
  go_enter Try.func107, Try.ntmps107
  go_wp2_with (first
    | (go_at_call 123; refine (size_any _ _).mono ?_; rintro e w' ⟨rfl, rfl⟩))
  refine wp_region_text (by kernel_rfl) (by kernel_rfl) ?_
  go_wp2_with (at_builtin; refine wpList_push (.tmp 16) (.tmp 27) 107 5 1 1 [.int .u8 (224 + x / 4096)] rfl rfl Try.underlying107 info_u8 rfl (by decide) rfl rfl hown ((Below.refl B w).drew) (Nat.le_refl _) hB rfl (by simp [Value.oneCell']) (by omega) (by omega) ?_)
  intro v1 w1 ho1 hb1 hl1 _
  go_wp2
  refine FinQ.intro (by kernel_rfl) ?_
  go_wp2
  refine wp_loop_rounds 3 ?_
  rw [rounds_succ]
  go_wp2_with (at_builtin; refine wpList_push (.tmp 35) (.tmp 43) 107 5 1 1 [.int .u8 (128 + x / 64 % 64)] rfl rfl Try.underlying107 info_u8 rfl (by decide) rfl rfl ho1 hb1 (Nat.le_refl _) (by omega) rfl (by simp [Value.oneCell']) (by omega) (by omega) ?_)
  intro v2 w2 ho2 hb2 hl2 _
  go_wp2
  rw [rounds_succ]
  go_wp2_with (at_builtin; refine wpList_push (.tmp 35) (.tmp 43) 107 5 1 1 [.int .u8 (128 + x % 64)] rfl rfl Try.underlying107 info_u8 rfl (by decide) rfl rfl ho2 hb2 (Nat.le_refl _) (by omega) rfl (by simp [Value.oneCell']) (by omega) (by omega) ?_)
  intro v3 w3 ho3 hb3 hl3 _
  go_wp2
  rw [rounds_succ]
  go_wp2
  go_ret
  exact ⟨v3, rfl, by rw [HL.out]; exact ho3, hb3⟩
set_option maxRecDepth 100000 in
theorem put_4 (B n : Nat) (v : Value) (xs : Bytes) (x : Int) (w : World) (hB : B ≤ w.heap.size) (hown : w.ownsRow B 5 1 v n (bvs xs)) (hn : n ≤ 100000000000000) (h0 : 65536 ≤ x) (h1 : x < 1114112) (hk : psz x = 4) :
    Calls Try.prog 107 #[v, .int .i64 x] w (Put B (n + 1 + 1 + 1 + 1) (xs ++ [ub (240 + x / 262144), ub (128 + x / 4096 % 64), ub (128 + x / 64 % 64), ub (128 + x % 64)]) w) := by
  have hl : bvs (xs ++ [ub (240 + x / 262144), ub (128 + x / 4096 % 64), ub (128 + x / 64 % 64), ub (128 + x % 64)]) = bvs xs ++ [.int .u8 (240 + x / 262144), .int .u8 (128 + x / 4096 % 64), .int .u8 (128 + x / 64 % 64), .int .u8 (128 + x % 64)] := by simp [bvs, ub_toNat (show 0 ≤ 240 + x / 262144 by omega) (by omega), ub_toNat (show 0 ≤ 128 + x / 4096 % 64 by omega) (by omega), ub_toNat (show 0 ≤ 128 + x / 64 % 64 by omega) (by omega), ub_toNat (show 0 ≤ 128 + x % 64 by omega) (by omega)]
  have HL := Lib.hid hl
  clear hl
  go_enter Try.func107, Try.ntmps107
  go_wp2_with (first
    | (go_at_call 123; refine (size_any _ _).mono ?_; rintro e w' ⟨rfl, rfl⟩))
  refine wp_region_text (by kernel_rfl) (by kernel_rfl) ?_
  go_wp2_with (at_builtin; refine wpList_push (.tmp 16) (.tmp 27) 107 5 1 1 [.int .u8 (240 + x / 262144)] rfl rfl Try.underlying107 info_u8 rfl (by decide) rfl rfl hown ((Below.refl B w).drew) (Nat.le_refl _) hB rfl (by simp [Value.oneCell']) (by omega) (by omega) ?_)
  intro v1 w1 ho1 hb1 hl1 _
  go_wp2
  refine FinQ.intro (by kernel_rfl) ?_
  go_wp2
  refine wp_loop_rounds 4 ?_
  rw [rounds_succ]
  go_wp2_with (at_builtin; refine wpList_push (.tmp 35) (.tmp 43) 107 5 1 1 [.int .u8 (128 + x / 4096 % 64)] rfl rfl Try.underlying107 info_u8 rfl (by decide) rfl rfl ho1 hb1 (Nat.le_refl _) (by omega) rfl (by simp [Value.oneCell']) (by omega) (by omega) ?_)
  intro v2 w2 ho2 hb2 hl2 _
  go_wp2
  rw [rounds_succ]
  go_wp2_with (at_builtin; refine wpList_push (.tmp 35) (.tmp 43) 107 5 1 1 [.int .u8 (128 + x / 64 % 64)] rfl rfl Try.underlying107 info_u8 rfl (by decide) rfl rfl ho2 hb2 (Nat.le_refl _) (by omega) rfl (by simp [Value.oneCell']) (by omega) (by omega) ?_)
  intro v3 w3 ho3 hb3 hl3 _
  go_wp2
  rw [rounds_succ]
  go_wp2_with (at_builtin; refine wpList_push (.tmp 35) (.tmp 43) 107 5 1 1 [.int .u8 (128 + x % 64)] rfl rfl Try.underlying107 info_u8 rfl (by decide) rfl rfl ho3 hb3 (Nat.le_refl _) (by omega) rfl (by simp [Value.oneCell']) (by omega) (by omega) ?_)
  intro v4 w4 ho4 hb4 hl4 _
  go_wp2
  rw [rounds_succ]
  go_wp2
  go_ret
  exact ⟨v4, rfl, by rw [HL.out]; exact ho4, hb4⟩

/-- text.put: the bytes of a code point behind others -/
theorem put_any (B n : Nat) (v : Value) (xs : Bytes) (x : Int) (w : World) (hB : B ≤ w.heap.size) (hown : w.ownsRow B 5 1 v n (bvs xs)) (hn : n ≤ 100000000000000) (hp : isPt x = true) :
    Calls Try.prog 107 #[v, .int .i64 x] w (Put B (n + (enc x).length) (xs ++ enc x) w) := by
  obtain ⟨h0, h1, _⟩ := (isPt_iff x).1 hp
  unfold enc
  by_cases c1 : x < 128
  · rw [if_pos c1]; exact put_1 B n v xs x w hB hown hn h0 c1 (by simp [psz, c1])
  · rw [if_neg c1]
    by_cases c2 : x < 2048
    · rw [if_pos c2]; exact put_2 B n v xs x w hB hown hn (by omega) c2 (by simp [psz, c1, c2])
    · rw [if_neg c2]
      by_cases c3 : x < 65536
      · rw [if_pos c3]; exact put_3 B n v xs x w hB hown hn (by omega) c3 (by simp [psz, c1, c2, c3])
      · rw [if_neg c3]; exact put_4 B n v xs x w hB hown hn (by omega) (by omega) (by simp [psz, c1, c2, c3])
end Go.Proofs.Ytdhpbfmamkndjaa.Text
