/- Contract: oxbowlaw12.live. -/
import Derived.Test.YtdhpbfmamkndjaaDocY
namespace Go.Proofs.Ytdhpbfmamkndjaa.Doc
open Go.RowKit Ox
set_option linter.unusedVariables false
set_option linter.unusedSimpArgs false
theorem ops_new {w : World} {e : TypeId} {N n : Nat} (d : List Opn) {cs : List Value} (h : opRows d = cs) (hN : w.heap.size = N) (hn : d.length = n) : Reads (w.alloc (.cells cs.toArray e)) (N + 1) 3 (some ⟨N, 0, none⟩) n (opRows d) := by
  subst h
  subst hN
  subst hn
  refine ⟨by rw [opRows_length]; omega, fun _ => ⟨_, rfl, by simp, fun j u hu => ?_⟩⟩
  rw [Addr.add_lit, Nat.zero_add, cell_of_row _ _ _ _ _ _ (heap_alloc_new w _)]
  simpa using hu
theorem tl_nil : (⟨#[]⟩ : ByteArray).toList = [] := by rw [ByteArray.toList_eq]
theorem k_keep {n : Int} (h1 : 1 ≤ n) (h2 : n ≤ 1000) : kOf ⟨1, n, ⟨#[]⟩⟩ = 1 := by unfold kOf; rw [if_pos ⟨rfl, tl_nil, h1, h2⟩]
theorem k_del {n : Int} (h1 : 1 ≤ n) (h2 : n ≤ 1000) : kOf ⟨3, n, ⟨#[]⟩⟩ = 3 := by unfold kOf; rw [if_neg (fun h => by have := h.1; simp at this), if_pos ⟨rfl, tl_nil, h1, h2⟩]
theorem k_ins {t : ByteArray} (h : 0 < lenO ⟨2, 0, t⟩) : kOf ⟨2, 0, t⟩ = 2 := by unfold kOf; rw [if_neg (fun h => by have := h.1; simp at this), if_neg (fun h => by have := h.1; simp at this), if_pos ⟨rfl, rfl, h⟩]
def lD1 : List Opn := [⟨2, 0, ⟨#[97, 98, 99]⟩⟩]
def lD2 : List Opn := [⟨1, 1, ⟨#[]⟩⟩, ⟨2, 0, ⟨#[120]⟩⟩, ⟨3, 1, ⟨#[]⟩⟩, ⟨1, 1, ⟨#[]⟩⟩]
def lL1 : List Rn := [⟨0, 2, 0, ⟨#[97, 98, 99]⟩⟩]
def lL2 : List Rn := [⟨0, 2, 0, ⟨#[97]⟩⟩, ⟨1, 1, 0, ⟨#[120]⟩⟩, ⟨0, 2, 2, ⟨#[99]⟩⟩]
theorem ok_run {r : Rn} {n : Nat} (hl : lenR r = (n : Int)) (ho : orgB r.c r.s = true) (h1 : 1 ≤ n) (h2 : 0 ≤ r.f) (h3 : r.f ≤ 999) (h4 : r.f + n ≤ 1000) : OkRun r := ⟨ho, by rw [hl]; omega, h2, h3, by rw [hl]; exact h4⟩
theorem good_nil : Good [] := Good.nil
theorem good_l1 : Good lL1 := by
  refine ⟨fun i r h => ?_, fun i a b h1 h2 => ?_, ?_, ?_⟩
  · match i, h with
    | 0, h =>
      have e : (⟨0, 2, 0, ⟨#[97, 98, 99]⟩⟩ : Rn) = r := by simpa [lL1] using h
      subst e
      exact ok_run (n := 3) (by rfl) (by decide) (by decide) (by decide) (by decide) (by decide)
    | i + 1, h => simp [lL1] at h
  · match i, h2 with
    | 0, h2 => simp [lL1] at h2
    | i + 1, h2 => simp [lL1] at h2
  · have e : names lL1 = [(0, 2, 0), (0, 2, 1), (0, 2, 2)] := by rfl
    rw [e]; decide
  · have e : names lL1 = [(0, 2, 0), (0, 2, 1), (0, 2, 2)] := by rfl
    rw [e]; decide
theorem good_l2 : Good lL2 := by
  refine ⟨fun i r h => ?_, fun i a b h1 h2 => ?_, ?_, ?_⟩
  · match i, h with
    | 0, h =>
      have e : (⟨0, 2, 0, ⟨#[97]⟩⟩ : Rn) = r := by simpa [lL2] using h
      subst e
      exact ok_run (n := 1) (by rfl) (by decide) (by decide) (by decide) (by decide) (by decide)
    | 1, h =>
      have e : (⟨1, 1, 0, ⟨#[120]⟩⟩ : Rn) = r := by simpa [lL2] using h
      subst e
      exact ok_run (n := 1) (by rfl) (by decide) (by decide) (by decide) (by decide) (by decide)
    | 2, h =>
      have e : (⟨0, 2, 2, ⟨#[99]⟩⟩ : Rn) = r := by simpa [lL2] using h
      subst e
      exact ok_run (n := 1) (by rfl) (by decide) (by decide) (by decide) (by decide) (by decide)
    | i + 3, h => simp [lL2] at h
  · match i, h1, h2 with
    | 0, h1, h2 =>
      have e1 : (⟨0, 2, 0, ⟨#[97]⟩⟩ : Rn) = a := by simpa [lL2] using h1
      have e2 : (⟨1, 1, 0, ⟨#[120]⟩⟩ : Rn) = b := by simpa [lL2] using h2
      subst e1; subst e2; rfl
    | 1, h1, h2 =>
      have e1 : (⟨1, 1, 0, ⟨#[120]⟩⟩ : Rn) = a := by simpa [lL2] using h1
      have e2 : (⟨0, 2, 2, ⟨#[99]⟩⟩ : Rn) = b := by simpa [lL2] using h2
      subst e1; subst e2; rfl
    | i + 2, h1, h2 => simp [lL2] at h2
  · have e : names lL2 = [(0, 2, 0), (1, 1, 0), (0, 2, 2)] := by rfl
    rw [e]; decide
  · have e : names lL2 = [(0, 2, 0), (1, 1, 0), (0, 2, 2)] := by rfl
    rw [e]; decide
theorem kD1 : kOf ⟨2, 0, ⟨#[97, 98, 99]⟩⟩ = 2 := k_ins (by show (0 : Int) < 3; decide)
theorem kD2 : kOf ⟨2, 0, ⟨#[120]⟩⟩ = 2 := k_ins (by show (0 : Int) < 1; decide)
theorem kK : kOf ⟨1, 1, ⟨#[]⟩⟩ = 1 := k_keep (by decide) (by decide)
theorem kX : kOf ⟨3, 1, ⟨#[]⟩⟩ = 3 := k_del (by decide) (by decide)
theorem chk_d1 : chk9 lD1 = 0 := by
  have e1 : sumOf opB lD1 = 0 := by simp [lD1, sumOf, opB, kD1]
  have e2 : sumOf opT lD1 = 3 := by simp only [lD1, sumOf, opT, kD1]; rfl
  unfold chk9
  rw [lens_ok (by decide) (by simp [lD1, kD1]) (by rw [e1, e2]; decide)]
theorem chk_d2 : chk9 lD2 = 0 := by
  have e1 : sumOf opB lD2 = 3 := by simp [lD2, sumOf, opB, kD2, kK, kX]
  have e2 : sumOf opT lD2 = 3 := by simp only [lD2, sumOf, opT, kD2, kK, kX]; rfl
  unfold chk9
  rw [lens_ok (by decide) (by simp [lD2, kD2, kK, kX]) (by rw [e1, e2]; decide)]
theorem ap_l1 : applyOf [] lD1 0 2 = (some (atoms lL1), 0) := by
  have e1 : sumOf opB lD1 = ((atoms []).length : Int) := by simp [lD1, sumOf, opB, kD1, atoms]
  rw [ap_6 good_nil chk_d1 e1 (by decide) (fun h => by obtain ⟨r, hr, _⟩ := h; simp at hr)]
  have e : (stOf (atoms []) 0 2 lD1).1 = atoms lL1 := by
    simp only [stOf, lD1, List.foldl_cons, List.foldl_nil, astep, kD1, if_true]
    rfl
  rw [e]
set_option maxRecDepth 100000 in
theorem ap_l2 : applyOf lL1 lD2 1 1 = (some (atoms lL2), 0) := by
  have e1 : sumOf opB lD2 = ((atoms lL1).length : Int) := by
    have : (atoms lL1).length = 3 := by rfl
    rw [this]
    simp [lD2, sumOf, opB, kD2, kK, kX]
  rw [ap_6 good_l1 chk_d2 e1 (by decide) (fun h => by obtain ⟨r, hr, h1, _⟩ := h; have : r = ⟨0, 2, 0, ⟨#[97, 98, 99]⟩⟩ := (by simpa [lL1] using hr); rw [this] at h1; revert h1; decide)]
  have e : (stOf (atoms lL1) 1 1 lD2).1 = atoms lL2 := by
    simp only [stOf, lD2, List.foldl_cons, List.foldl_nil, astep, kD2, kK, kX, if_true]
    rfl
  rw [e]
theorem bytes_l2 : bytesOf lL2 = [97, 120, 99] := by rfl
theorem at_l2 : atOf lL2 2 = some ⟨0, 2, 2, 99⟩ := by
  rw [at_good good_l2 (by decide)]
  rfl
theorem atoms_l2 : ((atoms lL2).length : Int) = 3 := by rfl
/-- a document that was made -/
def Made (n : Nat) (l : List Rn) (w : World) (e : Ending) (w' : World) : Prop := Below w.heap.size w w' ∧ ∃ A c, e = .returned (.tuple #[.slice A n c, .int .i64 0]) ∧ n ≤ c ∧ (∀ ad, A = some ad → ad.block < w'.heap.size) ∧ Reads w' w'.heap.size 4 A n (rows l)
theorem made_of {l : List Rn} {q : Option (List At) × Int} (hg : Good l) (hq : q = (some (atoms l), 0)) {w w' : World} {e : Ending} (h : ApRes q w e w') : Made l.length l w e w' := by
  rw [hq] at h
  obtain ⟨hb, v, rfl, ho⟩ := h
  rw [hg.runs_] at ho
  obtain ⟨A, c, rfl, hn, _, hrd, _⟩ := own_slice ho
  exact ⟨hb, A, c, rfl, hn, fun ad e => (ho.lt ad.block (by rw [e]; rfl)).2, hrd⟩
theorem live1 (w0 : World) (N : Nat) (hN : w0.heap.size = N) : Calls Try.prog 40 #[.slice none 0 0, .slice (some ⟨N, 0, none⟩) 1 1, .agg #[.int .i64 0, .int .i64 2]] (w0.alloc (.cells #[.int .i64 2, .int .i64 0, .string ⟨#[97, 98, 99]⟩] 57)) (Made 1 lL1 (w0.alloc (.cells #[.int .i64 2, .int .i64 0, .string ⟨#[97, 98, 99]⟩] 57))) :=
  (apply_any none 0 0 0 [] (some ⟨N, 0, none⟩) 1 1 (N + 1) lD1 0 2 (w0.alloc (.cells #[.int .i64 2, .int .i64 0, .string ⟨#[97, 98, 99]⟩] 57)) Reads.none_ (Nat.zero_le _) (by decide) (by decide) (fun r h => by simp at h) (Nat.le_refl _) (fun ad h => by cases h) (ops_new lD1 (cs := [.int .i64 2, .int .i64 0, .string ⟨#[97, 98, 99]⟩]) rfl hN rfl) (by simp; omega) (by decide) (fun x h => by simp [lD1] at h; subst h; decide)).mono fun e w' h => made_of good_l1 ap_l1 h
theorem live2 (w0 : World) (A : Option Addr) (c : Nat) (hr : Reads w0 w0.heap.size 4 A 1 (rows lL1)) (hc : 1 ≤ c) (hA : ∀ ad, A = some ad → ad.block < w0.heap.size) : Calls Try.prog 40 #[.slice A 1 c, .slice (some ⟨w0.heap.size, 0, none⟩) 4 4, .agg #[.int .i64 1, .int .i64 1]]
    (w0.alloc (.cells #[.int .i64 1, .int .i64 1, .string ⟨#[]⟩, .int .i64 2, .int .i64 0, .string ⟨#[120]⟩, .int .i64 3, .int .i64 1, .string ⟨#[]⟩, .int .i64 1, .int .i64 1, .string ⟨#[]⟩] 57)) (Made 3 lL2 (w0.alloc (.cells #[.int .i64 1, .int .i64 1, .string ⟨#[]⟩, .int .i64 2, .int .i64 0, .string ⟨#[120]⟩, .int .i64 3, .int .i64 1, .string ⟨#[]⟩, .int .i64 1, .int .i64 1, .string ⟨#[]⟩] 57))) :=
  (apply_any A 1 c w0.heap.size lL1 (some ⟨w0.heap.size, 0, none⟩) 4 4 (w0.heap.size + 1) lD2 1 1 _ (hr.alloc (Nat.le_refl _) _) (by simp) (by decide) (by decide) (fun r h => by have : r = ⟨0, 2, 0, ⟨#[97, 98, 99]⟩⟩ := (by simpa [lL1] using h); subst this; decide) hc (fun ad h => by have := hA ad h; simp; omega)
    (ops_new lD2 (cs := [.int .i64 1, .int .i64 1, .string ⟨#[]⟩, .int .i64 2, .int .i64 0, .string ⟨#[120]⟩, .int .i64 3, .int .i64 1, .string ⟨#[]⟩, .int .i64 1, .int .i64 1, .string ⟨#[]⟩]) rfl rfl rfl) (by simp) (by decide)
    (fun x h => by simp [lD2] at h; rcases h with h | h | h | h <;> (subst h; decide))).mono fun e w' h => made_of good_l2 ap_l2 h
theorem at_two {w : World} {A : Option Addr} {c : Nat} (hr : Reads w w.heap.size 4 A 3 (rows lL2)) : Calls Try.prog 32 #[.slice A 3 c, .int .i64 2] w fun e w' => Below w.heap.size w w' ∧ e = .returned (.tuple #[.agg #[.int .i64 0, .int .i64 2], .int .i64 2, .bool true]) := by
  have h := at_any A 3 c w.heap.size lL2 2 w hr (Nat.le_refl _) (by decide) (fun r h => by simp [lL2] at h; rcases h with h | h | h <;> (subst h; decide)) (by decide)
  rw [at_l2] at h
  exact h
theorem text_two {w : World} {A : Option Addr} {c B : Nat} (hr : Reads w B 4 A 3 (rows lL2)) (hB : B ≤ w.heap.size) : Calls Try.prog 30 #[.slice A 3 c] w fun e w' => e = .returned (.string ⟨#[97, 120, 99]⟩) ∧ Below w.heap.size w w' := by
  have h := text_any A 3 c B lL2 w hr hB (by decide) (by decide)
  rw [bytes_l2] at h
  exact h
theorem len_two {w : World} {A : Option Addr} {c B : Nat} (hr : Reads w B 4 A 3 (rows lL2)) (hB : B ≤ w.heap.size) : Calls Try.prog 31 #[.slice A 3 c] w fun e w' => e = .returned (.int .i64 3) ∧ Below w.heap.size w w' := by
  have h := len_any A 3 c B lL2 w hr hB (by decide) (by decide)
  rw [good_len good_l2, atoms_l2] at h
  exact h
set_option maxRecDepth 100000 in
set_option maxHeartbeats 8000000 in
theorem live_any (w : World) : Calls Try.prog 38 #[] w (Bool_ true w) := by
  go_enter Try.func38, Try.ntmps38
  go_wp2_with (fail)
  refine (live1 _ _ (by simp)).mono ?_
  rintro e w2 ⟨hb2, A1, c1, rfl, hc1, hlt1, hr1⟩
  have hb0 := ((Below.refl w.heap.size w).alloc (Nat.le_refl _) (.cells #[.int .i64 0, .int .i64 2] 35)).alloc (by simp) (.cells #[.int .i64 2, .int .i64 0, .string ⟨#[97, 98, 99]⟩] 57)
  have hB2 := below_next hb0 hb2 (by simp; omega)
  have ko := ((Blk.new w 35 #[.int .i64 0, .int .i64 2]).alloc (.cells #[.int .i64 2, .int .i64 0, .string ⟨#[97, 98, 99]⟩] 57)).below hb2 (by simp; omega)
  obtain ⟨o1, o2⟩ := org_cells ko
  have hlo := ko.lt
  have HB2 := Lib.hid hB2
  have HKO := Lib.hid ko
  clear hb2 hb0 hB2 ko
  go_wp2_with (fail)
  refine (live2 _ A1 c1 hr1 hc1 hlt1).mono ?_
  rintro e w3 ⟨hb3, A2, c2, rfl, hc2, hlt2, hr2⟩
  have hB3 := below_next (HB2.out.alloc HB2.out.size _) hb3 (Nat.le_trans HB2.out.size (by simp))
  have ko3 := (HKO.out.alloc _).below hb3 (by simp; omega)
  obtain ⟨x1, x2⟩ := org_cells ko3
  have hlo3 := ko3.lt
  have HB3 := Lib.hid hB3
  have HK3 := Lib.hid ko3
  have HR2 := Lib.hid hr2
  clear hb3 hB3 ko3 o1 o2 hr1 hlt1 hr2 hlt2
  go_wp2_with (fail)
  refine (at_two HR2.out).mono ?_
  rintro e w4 ⟨hb4, rfl⟩
  have hB4 := below_next HB3.out hb4 HB3.out.size
  have ko4 := HK3.out.below hb4 hlo3
  obtain ⟨y1, y2⟩ := org_cells ko4
  have hlo4 := ko4.lt
  have hr4 := Lib.hid (((HR2.out.below hb4).more hb4.size).alloc (Nat.le_refl _) (.cells #[.int .i64 0, .int .i64 2] 35))
  have hT := Lib.hid (fun (w5 : World) (h : Below w4.heap.size (w4.alloc (.cells #[.int .i64 0, .int .i64 2] 35)) w5) => text_two (A := A2) (c := c2) (hr4.out.below h) (Nat.le_trans (by simp) h.size))
  have hLn := Lib.hid (fun (w5 : World) (h : Below w4.heap.size (w4.alloc (.cells #[.int .i64 0, .int .i64 2] 35)) w5) => len_two (A := A2) (c := c2) (hr4.out.below h) (Nat.le_trans (by simp) h.size))
  have HB4 := Lib.hid hB4
  have HK4 := Lib.hid ko4
  have kz := Lib.hid (Blk.new w4 35 #[.int .i64 0, .int .i64 2])
  clear hb4 hB4 ko4 x1 x2
  go_wp2_with (first
    | (go_at_call 30; refine (hT.out _ (Below.refl _ _)).mono ?_; rintro e w5 ⟨rfl, hb5⟩)
    | (go_at_call 31; refine (hLn.out _ (hb5.mono (by simp))).mono ?_; rintro e w6 ⟨rfl, hb6⟩; have hb56 := hb5.trans (hb6.mono hb5.size); obtain ⟨z1, z2⟩ := org_cells (kz.out.below hb56 (by simp)); obtain ⟨v1, v2⟩ := org_cells ((HK4.out.alloc _).below hb56 (by simp; omega))))
  go_ret
  exact bool_of rfl (below_next (HB4.out.alloc HB4.out.size _) hb56 (Nat.le_trans HB4.out.size (by simp)))
end Go.Proofs.Ytdhpbfmamkndjaa.Doc
