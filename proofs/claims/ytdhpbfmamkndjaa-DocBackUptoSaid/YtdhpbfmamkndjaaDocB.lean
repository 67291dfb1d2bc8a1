/- Contracts: oxbowlaw12.Copied, Text of doc and of oxbowref12. -/
import Derived.Test.YtdhpbfmamkndjaaDocA
import Derived.Test.YtdhpbfmamkndjaaTextI
namespace Go.Proofs.Ytdhpbfmamkndjaa.Doc
open Go.RowKit Ox
set_option linter.unusedVariables false
set_option linter.unusedSimpArgs false
theorem info_run : (Try.prog.info? 37).map (fun i => (i.zero, i.size, i.bytes)) = some (some (.agg #[.int .i64 0, .int .i64 0, .int .i64 0, .string ⟨#[]⟩]), 4, 40) := by kernel_rfl
/-- a document of the call's own -/
def OwnR (w : World) (B : Nat) (v : Value) (l : List Rn) : Prop := w.ownsRow B 37 4 v l.length (rows l)
set_option maxRecDepth 100000 in
theorem copied_any (A : Option Addr) (n c B : Nat) (l : List Rn) (w : World) (hr : Reads w B 4 A n (rows l)) (hB : B ≤ w.heap.size) (hn : n ≤ 100000000000) :
    Calls Try.prog 28 #[.slice A n c] w fun e w' => ∃ v, e = .returned v ∧ OwnR w' w.heap.size v l ∧ Below w.heap.size w w' := by
  have hl := rows_len hr
  have HL := Lib.hid hl
  have HR := Lib.hid hr
  have hb0 := Below.refl w.heap.size w
  clear hr hl
  go_enter Try.func28, Try.ntmps28
  go_wp2_with (at_builtin; refine wpList_pushAll (.tmp 4) (.tmp 5) 30 37 4 40 rfl rfl Try.underlying30 info_run rfl (by decide) rfl rfl HR.out (rows_one l) (World.ownsRow_nil _ w.heap.size _ _) hb0 (Nat.le_refl _) (Nat.le_refl _) (Nat.le_refl _) (by omega) (by omega) ?_)
  intro v1 w1 ho1 hb1 hs1 _
  go_wp2
  go_ret
  refine ⟨v1, rfl, ?_, hb1⟩
  unfold OwnR
  rw [HL.out]
  simpa using ho1

/-- the bytes of a document's text -/
def bytesOf (l : List Rn) : Bytes := l.flatMap fun r => r.t.data.toList
theorem bytesOf_append (a b : List Rn) : bytesOf (a ++ b) = bytesOf a ++ bytesOf b := by simp [bytesOf]
theorem bytesOf_take {l : List Rn} {k : Nat} {r : Rn} (h : l[k]? = some r) : bytesOf (l.take (k + 1)) = bytesOf (l.take k) ++ r.t.data.toList := by
  rw [take_snoc h, bytesOf_append]; simp [bytesOf]
theorem bytesOf_le (l : List Rn) (k : Nat) : (bytesOf (l.take k)).length ≤ (bytesOf l).length := by
  conv => rhs; rw [← List.take_append_drop k l, bytesOf_append]
  simp
theorem size_mk (l : Bytes) : (⟨l.toArray⟩ : ByteArray).size = l.length := by show l.toArray.size = _; simp
def Str (l : Bytes) (w : World) (e : Ending) (w' : World) : Prop := e = .returned (.string ⟨l.toArray⟩) ∧ Below w.heap.size w w'
structure BytesRel (l : List Rn) (w : World) (k : Nat) (v : Value) (wr : World) : Prop where
  own : wr.ownsRow w.heap.size 5 1 v (bytesOf (l.take k)).length (bvs (bytesOf (l.take k)))
  below : Below w.heap.size w wr
set_option maxRecDepth 100000 in
theorem text_any (A : Option Addr) (n c B : Nat) (l : List Rn) (w : World) (hr : Reads w B 4 A n (rows l)) (hB : B ≤ w.heap.size) (hn : n ≤ 100000000000) (hz : (bytesOf l).length ≤ 10000000000000) :
    Calls Try.prog 30 #[.slice A n c] w (Str (bytesOf l) w) := by
  have HL := Lib.hid (rows_len hr)
  go_enter Try.func30, Try.ntmps30
  go_wp2
  go_loopw [3, 8] (fun v i wr => ∃ k : Nat, k ≤ n ∧ i = .int .i64 k ∧ BytesRel l w k v wr) (fun _ i _ => n - (intOf i).toNat)
  case atStart => exact ⟨0, Nat.zero_le _, rfl, World.ownsRow_nil _ _ _ _, Below.refl _ _⟩
  case round =>
    obtain ⟨k, hk, rfl, hrl⟩ := hrel
    by_cases hlt : k < n
    · have hr2 := hr.more hB
      obtain ⟨ad, p, r, rfl, hp, hbk, hx, p1, p2, p3, p4⟩ := run_at (hr2.below hrl.below) hlt
      clear hr hr2
      have hle := bytesOf_le l (k + 1)
      rw [bytesOf_take hx.out, List.length_append] at hle
      have hsz : r.t.data.toList.length = r.t.size := by simp
      have hbs := hrl.below.size
      go_wp2_with (at_builtin; refine wpList_pushStr (.tmp 12) (.tmp 14) 107 9 5 rfl rfl Try.underlying107 Try.underlying9 Text.info_u8 rfl rfl (hrl.own.alloc _) (hrl.below.alloc hbs _) (Nat.le_refl _) (Nat.le_trans hbs (by simp)) (by omega) ?_)
      intro v2 w2 ho2 hb2 _
      have hst : BytesRel l w (k + 1) v2 w2 := ⟨by rw [bytesOf_take hx.out, List.length_append, hsz]; exact ho2, hb2⟩
      go_wp2
      go_roundw
      case rel => exact ⟨k + 1, by omega, by go_num, hst⟩
      case measure => simp [intOf]; omega
    · obtain ⟨A1, c1, hv, _, _, hrd, _⟩ := own_slice hrl.own
      have hk2 : bytesOf (l.take k) = bytesOf l := by rw [List.take_of_length_le (by rw [HL.out]; omega)]
      rw [hk2] at hv hrd
      rw [hv]
      have hbb := hrl.below
      clear hrl
      go_wp2_with (refine wpList_toStr (.tmp 17) 107 9 5 rfl rfl Try.underlying107 Try.underlying9 Try.underlying5 rfl hrd ?_)
      go_ret
      exact ⟨rfl, hbb⟩
/-! ### Text of oxbowref12 -/
set_option maxRecDepth 100000 in
theorem rtext_any (A : Option Addr) (n c B : Nat) (l : List Rn) (w : World) (hr : Reads w B 4 A n (rows l)) (hB : B ≤ w.heap.size) (hn : n ≤ 100000000000) (hz : (bytesOf l).length ≤ 10000000000000) :
    Calls Try.prog 35 #[.slice A n c] w (Str (bytesOf l) w) := by
  have HL := Lib.hid (rows_len hr)
  go_enter Try.func35, Try.ntmps35
  go_wp2
  go_loopw [3, 4] (fun v i wr => ∃ k : Nat, k ≤ n ∧ i = .int .i64 k ∧ (∃ s : ByteArray, v = .string s ∧ Hid (s = ⟨(bytesOf (l.take k)).toArray⟩)) ∧ Below w.heap.size w wr) (fun _ i _ => n - (intOf i).toNat)
  case atStart => exact ⟨0, Nat.zero_le _, rfl, ⟨_, rfl, rfl⟩, Below.refl _ _⟩
  case round =>
    obtain ⟨k, hk, rfl, ⟨s, rfl, hs⟩, hb⟩ := hrel
    by_cases hlt : k < n
    · have hr2 := hr.more hB
      obtain ⟨ad, p, r, rfl, hp, hbk, hx, p1, p2, p3, p4⟩ := run_at (hr2.below hb) hlt
      clear hr hr2
      have hle := bytesOf_le l (k + 1)
      rw [bytesOf_take hx.out, List.length_append] at hle
      have hsz : r.t.data.toList.length = r.t.size := by simp
      have hss : s.size = (bytesOf (l.take k)).length := by rw [hs.out, size_mk]
      have hsum : s.size + r.t.size ≤ 10000000000000 := by omega
      have hst : s ++ r.t = ⟨(bytesOf (l.take (k + 1))).toArray⟩ := by
        rw [bytesOf_take hx.out, hs.out]
        apply ByteArray.ext
        simp
      have HS := Lib.hid hst
      clear hst hss hsz hle
      go_wp2
      go_roundw
      case rel => exact ⟨k + 1, by omega, by go_num, ⟨_, rfl, HS.out⟩, hb⟩
      case measure => simp [intOf]; omega
    · have hk2 : s = ⟨(bytesOf l).toArray⟩ := by rw [hs.out, List.take_of_length_le (by rw [HL.out]; omega)]
      subst hk2
      go_wp2
      go_ret
      exact ⟨rfl, hb⟩
/-! ### Len -/
set_option maxRecDepth 100000 in
theorem len_any (A : Option Addr) (n c B : Nat) (l : List Rn) (w : World) (hr : Reads w B 4 A n (rows l)) (hB : B ≤ w.heap.size) (hn : n ≤ 100000000000) (hz : (bytesOf l).length ≤ 10000000000000) :
    Calls Try.prog 31 #[.slice A n c] w (Text.Num (Text.lenOf (bytesOf l)) w) := by
  have h1 := text_any A n c B l w hr hB hn hz
  have h2 := fun w => Text.len_any ⟨(bytesOf l).toArray⟩ w (by rw [size_mk]; exact hz)
  have H1 := Lib.hid h1
  have H2 := Lib.hid h2
  clear h1 h2 hr
  go_enter Try.func31, Try.ntmps31
  go_wp2_with (first
    | (go_at_call 30; refine (H1.out).mono ?_; rintro e w1 ⟨rfl, hb1⟩; have hs1 := hb1.size)
    | (go_at_call 67; refine (H2.out _).mono ?_; rintro e w2 ⟨rfl, hb2⟩))
  go_ret
  exact ⟨by simp, below_next hb1 hb2 hs1⟩
set_option maxRecDepth 100000 in
theorem rlen_any (A : Option Addr) (n c B : Nat) (l : List Rn) (w : World) (hr : Reads w B 4 A n (rows l)) (hB : B ≤ w.heap.size) (hn : n ≤ 100000000000) (hz : (bytesOf l).length ≤ 10000000000000) :
    Calls Try.prog 36 #[.slice A n c] w (Text.Num (Text.lenOf (bytesOf l)) w) := by
  have h1 := rtext_any A n c B l w hr hB hn hz
  have h2 := fun w => Text.rlen_any ⟨(bytesOf l).toArray⟩ w (by rw [size_mk]; exact hz)
  have H1 := Lib.hid h1
  have H2 := Lib.hid h2
  clear h1 h2 hr
  go_enter Try.func36, Try.ntmps36
  go_wp2_with (first
    | (go_at_call 35; refine (H1.out).mono ?_; rintro e w1 ⟨rfl, hb1⟩; have hs1 := hb1.size)
    | (go_at_call 70; refine (H2.out _).mono ?_; rintro e w2 ⟨rfl, hb2⟩))
  go_ret
  exact ⟨by simp, below_next hb1 hb2 hs1⟩
end Go.Proofs.Ytdhpbfmamkndjaa.Doc
