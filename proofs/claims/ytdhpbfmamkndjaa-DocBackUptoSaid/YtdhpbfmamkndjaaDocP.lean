/- Contracts: delta.lengths, delta.Base. -/
import Derived.Test.YtdhpbfmamkndjaaDocO
namespace Go.Proofs.Ytdhpbfmamkndjaa.Doc
open Go.RowKit Ox
set_option linter.unusedVariables false
set_option linter.unusedSimpArgs false
theorem as_keep (W : World) (n : Int) : (Instr.typeAssert (.iface 171 (.int .i64 n)) 20 171 true).run Try.prog W = .ok (.tuple #[.int .i64 n, .bool true]) W := by kernel_rfl
theorem as_keep_rm (W : World) (n : Int) : (Instr.typeAssert (.iface 172 (.int .i64 n)) 20 171 true).run Try.prog W = .ok (.tuple #[.int .i64 0, .bool false]) W := by kernel_rfl
theorem as_keep_put (W : World) (s : ByteArray) : (Instr.typeAssert (.iface 173 (.string s)) 20 171 true).run Try.prog W = .ok (.tuple #[.int .i64 0, .bool false]) W := by kernel_rfl
theorem as_keep_nil (W : World) : (Instr.typeAssert .nilIface 20 171 true).run Try.prog W = .ok (.tuple #[.int .i64 0, .bool false]) W := by kernel_rfl
theorem as_rm (W : World) (n : Int) : (Instr.typeAssert (.iface 172 (.int .i64 n)) 20 172 true).run Try.prog W = .ok (.tuple #[.int .i64 n, .bool true]) W := by kernel_rfl
theorem as_rm_put (W : World) (s : ByteArray) : (Instr.typeAssert (.iface 173 (.string s)) 20 172 true).run Try.prog W = .ok (.tuple #[.int .i64 0, .bool false]) W := by kernel_rfl
theorem as_rm_nil (W : World) : (Instr.typeAssert .nilIface 20 172 true).run Try.prog W = .ok (.tuple #[.int .i64 0, .bool false]) W := by kernel_rfl
theorem as_put (W : World) (s : ByteArray) : (Instr.typeAssert (.iface 173 (.string s)) 20 173 true).run Try.prog W = .ok (.tuple #[.string s, .bool true]) W := by kernel_rfl
theorem as_put_nil (W : World) : (Instr.typeAssert .nilIface 20 173 true).run Try.prog W = .ok (.tuple #[.string ⟨#[]⟩, .bool false]) W := by kernel_rfl
def opB (x : Opn) : Int := if kOf x = 1 ∨ kOf x = 3 then x.n else 0
def opT (x : Opn) : Int := if kOf x = 1 then x.n else if kOf x = 2 then lenO x else 0
def sumOf (f : Opn → Int) : List Opn → Int
  | [] => 0
  | x :: l => f x + sumOf f l
theorem sumOf_append (f : Opn → Int) : ∀ a b : List Opn, sumOf f (a ++ b) = sumOf f a + sumOf f b
  | [], b => by simp [sumOf]
  | x :: a, b => by simp [sumOf, sumOf_append f a b]; omega
theorem sumOf_snoc (f : Opn → Int) {l : List Opn} {k : Nat} {x : Opn} (h : l[k]? = some x) : sumOf f (l.take (k + 1)) = sumOf f (l.take k) + f x := by
  rw [take_snoc h, sumOf_append]; simp [sumOf]
/-- base, target, the error's number -/
noncomputable def lens (l : List Opn) : Int × Int × Int := open Classical in
  if 3000 < l.length then (0, 0, 90) else if ∀ x ∈ l, kOf x ≠ 0 then (if 1000 < sumOf opB l ∨ 1000 < sumOf opT l then (0, 0, 91) else (sumOf opB l, sumOf opT l, 0)) else (0, 0, 90)
theorem lens_many {l : List Opn} (h : 3000 < l.length) : lens l = (0, 0, 90) := by unfold lens; rw [if_pos h]
theorem lens_bad {l : List Opn} {x : Opn} (hx : x ∈ l) (h : kOf x = 0) : lens l = (0, 0, 90) := by
  unfold lens
  split
  · rfl
  · rw [if_neg (fun g => g x hx h)]
theorem lens_big {l : List Opn} (hl : ¬ 3000 < l.length) (ho : ∀ x ∈ l, kOf x ≠ 0) (h : 1000 < sumOf opB l ∨ 1000 < sumOf opT l) : lens l = (0, 0, 91) := by
  unfold lens; rw [if_neg hl, if_pos ho, if_pos h]
theorem lens_ok {l : List Opn} (hl : ¬ 3000 < l.length) (ho : ∀ x ∈ l, kOf x ≠ 0) (h : ¬ (1000 < sumOf opB l ∨ 1000 < sumOf opT l)) : lens l = (sumOf opB l, sumOf opT l, 0) := by
  unfold lens; rw [if_neg hl, if_pos ho, if_neg h]
theorem kOf_cases (x : Opn) : (kOf x = 1 ∧ x.k = 1 ∧ x.t.toList = [] ∧ 1 ≤ x.n ∧ x.n ≤ 1000) ∨ (kOf x = 3 ∧ x.k = 3 ∧ x.t.toList = [] ∧ 1 ≤ x.n ∧ x.n ≤ 1000) ∨ (kOf x = 2 ∧ x.k = 2 ∧ x.n = 0 ∧ 0 < lenO x) ∨ kOf x = 0 := by
  unfold kOf
  split
  · rename_i h; exact .inl ⟨rfl, h⟩
  · split
    · rename_i h; exact .inr (.inl ⟨rfl, h⟩)
    · split
      · rename_i h; exact .inr (.inr (.inl ⟨rfl, h⟩))
      · exact .inr (.inr (.inr rfl))
theorem lenO_hi (r : Opn) : -1 ≤ lenO r ∧ lenO r ≤ r.t.size := by
  unfold lenO Text.lenOf
  cases hp : pts r.t.data.toList with
  | none => simp
  | some l => have := pts_length_le hp; have : r.t.data.toList.length = r.t.size := (by simp); simp only; omega
def Three (p : Int × Int × Int) (w : World) (e : Ending) (w' : World) : Prop := e = .returned (.tuple #[.int .i64 p.1, .int .i64 p.2.1, .int .i64 p.2.2]) ∧ Below w.heap.size w w'
theorem three_of {p : Int × Int × Int} {a b c : Int} {w w' : World} (h : p = (a, b, c)) (hb : Below w.heap.size w w') : Three p w (.returned (.tuple #[.int .i64 a, .int .i64 b, .int .i64 c])) w' := by rw [h]; exact ⟨rfl, hb⟩
structure LenRel (l : List Opn) (w : World) (k : Nat) (b t : Int) (wr : World) : Prop where
  okk : ∀ x ∈ l.take k, kOf x ≠ 0
  below : Below w.heap.size w wr
  eb : b = sumOf opB (l.take k)
  et : t = sumOf opT (l.take k)
theorem LenRel.step {l : List Opn} {w wr w' : World} {k : Nat} {b t b' t' : Int} {x : Opn} (h : LenRel l w k b t wr) (hx : l[k]? = some x) (hk : kOf x ≠ 0) (hb : Below w.heap.size w w') (eb : b' = b + opB x) (et : t' = t + opT x) : LenRel l w (k + 1) b' t' w' := by
  refine ⟨fun y hy => ?_, hb, by rw [eb, sumOf_snoc _ hx, h.eb], by rw [et, sumOf_snoc _ hx, h.et]⟩
  rw [take_snoc hx] at hy
  rcases List.mem_append.1 hy with h1 | h1
  · exact h.okk y h1
  · have : y = x := by simpa using h1
    rw [this]; exact hk
set_option maxRecDepth 100000 in
set_option maxHeartbeats 4000000 in
theorem lengths_any (A : Option Addr) (n c B : Nat) (l : List Opn) (w : World) (hr : Reads w B 3 A n (opRows l)) (hB : B ≤ w.heap.size) (hn : n ≤ 100000000000) (hz : ∀ r ∈ l, r.t.size ≤ 10000000000) :
    Calls Try.prog 108 #[.slice A n c] w (Three (lens l) w) := by
  have HL := Lib.hid (opRows_len hr)
  by_cases hmany : 3000 < n
  · have h1 := Lib.hid (lens_many (l := l) (by rw [HL.out]; exact hmany))
    go_enter Try.func108, Try.ntmps108
    go_wp2
    go_ret3
    exact three_of h1.out (Below.refl _ _)
  · go_enter Try.func108, Try.ntmps108
    go_wp2
    go_loopw [5, 6, 18] (fun b t i wr => ∃ (k : Nat) (b' t' : Int), k ≤ n ∧ i = .int .i64 k ∧ b = .int .i64 b' ∧ t = .int .i64 t' ∧ 0 ≤ b' ∧ b' ≤ 1000 * k ∧ 0 ≤ t' ∧ t' ≤ 10000000000 * k ∧ LenRel l w k b' t' wr) (fun _ _ i _ => n - (intOf i).toNat)
    case atStart => exact ⟨0, 0, 0, Nat.zero_le _, rfl, rfl, rfl, by omega, by omega, by omega, by omega, fun x h => by simp at h, Below.refl _ _, rfl, rfl⟩
    case round =>
      obtain ⟨k, b, t, hk, rfl, rfl, rfl, b1, b2, t1, t2, hrl⟩ := hrel
      by_cases hlt : k < n
      · obtain ⟨ad, p, x, rfl, hp, hbk, hx, p1, p2, p3⟩ := op_at ((hr.more hB).below hrl.below) hlt
        have hxm := List.mem_of_getElem? hx.out
        have hK := fun w => kind_any x w (Nat.le_trans (hz x hxm) (by omega))
        have hL := fun w => Text.len_any x.t w (Nat.le_trans (hz x hxm) (by omega))
        change ∀ w, Calls Try.prog 67 #[.string x.t] w (Text.Num (lenO x) w) at hL
        have hlo := lenO_hi x
        have hxz := hz x hxm
        have HLn := Lib.hid hL
        have hbs := hrl.below.size
        clear hL
        unfold kindV at hK
        rcases kOf_cases x with ⟨g, g1, g2, g3, g4⟩ | ⟨g, g1, g2, g3, g4⟩ | ⟨g, g1, g2, g3⟩ | g
        · rw [g] at hK
          have HK := Lib.hid hK
          have hst : ∀ w', Below w.heap.size w w' → LenRel l w (k + 1) (b + x.n) (t + x.n) w' := fun w' hb => hrl.step hx.out (by rw [g]; decide) hb (by unfold opB; rw [if_pos (.inl g)]) (by unfold opT; rw [if_pos g])
          have HS := Lib.hid hst
          have q1 := fun W => as_keep W x.n
          clear hst hK g g1 g2
          go_wp2_with (go_at_call 124; refine (HK.out _).mono ?_; rintro e w2 ⟨rfl, hb2⟩)
          have hst := Lib.hid (HS.out _ (below_next ((hrl.below).alloc hbs _) hb2 (by simp; omega)))
          go_roundw
          case rel => exact ⟨k + 1, _, _, by omega, by go_num, rfl, rfl, by omega, by omega, by omega, by omega, hst.out⟩
          case measure => simp [intOf]; omega
        · rw [g] at hK
          have HK := Lib.hid hK
          have hst : ∀ w', Below w.heap.size w w' → LenRel l w (k + 1) (b + x.n) t w' := fun w' hb => hrl.step hx.out (by rw [g]; decide) hb (by unfold opB; rw [if_pos (.inr g)]) (by unfold opT; rw [if_neg (by rw [g]; decide), if_neg (by rw [g]; decide)]; omega)
          have HS := Lib.hid hst
          have q1 := fun W => as_keep_rm W x.n
          have q2 := fun W => as_rm W x.n
          clear hst hK g g1 g2
          go_wp2_with (go_at_call 124; refine (HK.out _).mono ?_; rintro e w2 ⟨rfl, hb2⟩)
          have hst := Lib.hid (HS.out _ (below_next ((hrl.below).alloc hbs _) hb2 (by simp; omega)))
          go_roundw
          case rel => exact ⟨k + 1, _, _, by omega, by go_num, rfl, rfl, by omega, by omega, by omega, by omega, hst.out⟩
          case measure => simp [intOf]; omega
        · rw [g] at hK
          have HK := Lib.hid hK
          have hst : ∀ w', Below w.heap.size w w' → LenRel l w (k + 1) b (t + lenO x) w' := fun w' hb => hrl.step hx.out (by rw [g]; decide) hb (by unfold opB; rw [if_neg (by rw [g]; decide)]; omega) (by unfold opT; rw [if_neg (by rw [g]; decide), if_pos g])
          have HS := Lib.hid hst
          have q1 := fun W => as_keep_put W x.t
          have q2 := fun W => as_rm_put W x.t
          have q3 := fun W => as_put W x.t
          clear hst hK g g1 g2
          generalize lenO x = z at *
          go_wp2_with (first
            | (go_at_call 124; refine (HK.out _).mono ?_; rintro e w2 ⟨rfl, hb2⟩)
            | (go_at_call 67; refine (HLn.out _).mono ?_; rintro e w3 ⟨rfl, hb3⟩))
          have hbb := below_next ((hrl.below).alloc hbs _) hb2 (by simp; omega)
          have hst := Lib.hid (HS.out _ (below_next hbb hb3 hbb.size))
          go_roundw
          case rel => exact ⟨k + 1, _, _, by omega, by go_num, rfl, rfl, by omega, by omega, by omega, by omega, hst.out⟩
          case measure => simp [intOf]; omega
        · rw [g] at hK
          have HK := Lib.hid hK
          have hf := Lib.hid (lens_bad hxm g)
          have q1 := as_keep_nil
          have q2 := as_rm_nil
          have q3 := as_put_nil
          clear hK g
          go_wp2_with (go_at_call 124; refine (HK.out _).mono ?_; rintro e w2 ⟨rfl, hb2⟩)
          go_ret3
          exact three_of hf.out (below_next ((hrl.below).alloc hbs _) hb2 (by simp; omega))
      · have hkn : l.take k = l := List.take_of_length_le (by rw [HL.out]; omega)
        have ho := hrl.okk
        have eb := hrl.eb
        have et := hrl.et
        rw [hkn] at ho eb et
        have hbb := hrl.below
        have hl : ¬ 3000 < l.length := by rw [HL.out]; exact hmany
        clear hrl hkn
        by_cases h1 : 1000 < b
        · have hf := Lib.hid (lens_big hl ho (.inl (by rw [← eb]; exact h1)))
          clear ho eb et
          go_wp2
          go_ret3
          exact three_of hf.out hbb
        · by_cases h2 : 1000 < t
          · have hf := Lib.hid (lens_big hl ho (.inr (by rw [← et]; exact h2)))
            clear ho eb et
            go_wp2
            go_ret3
            exact three_of hf.out hbb
          · have hf : lens l = (b, t, 0) := by rw [lens_ok hl ho (by rw [← eb, ← et]; omega), ← eb, ← et]
            have HF := Lib.hid hf
            clear ho eb et hf
            go_wp2
            go_ret3
            exact three_of HF.out hbb
def Two_ (p : Int × Int) (w : World) (e : Ending) (w' : World) : Prop := e = .returned (.tuple #[.int .i64 p.1, .int .i64 p.2]) ∧ Below w.heap.size w w'
noncomputable def baseOf (l : List Opn) : Int × Int := ((lens l).1, (lens l).2.2)
set_option maxRecDepth 100000 in
theorem base_any (A : Option Addr) (n c B : Nat) (l : List Opn) (w : World) (hr : Reads w B 3 A n (opRows l)) (hB : B ≤ w.heap.size) (hn : n ≤ 100000000000) (hz : ∀ r ∈ l, r.t.size ≤ 10000000000) :
    Calls Try.prog 72 #[.slice A n c] w (Two_ (baseOf l) w) := by
  have h1 := lengths_any A n c B l w hr hB hn hz
  have H1 := Lib.hid h1
  clear h1 hr
  unfold baseOf
  go_enter Try.func72, Try.ntmps72
  go_wp2_with (go_at_call 108; refine (H1.out).mono ?_; rintro e w2 ⟨rfl, hb2⟩)
  go_ret2
  exact ⟨rfl, hb2⟩
end Go.Proofs.Ytdhpbfmamkndjaa.Doc
