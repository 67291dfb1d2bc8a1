/- Contracts: Text, Len, Cut, Compare, of package text and of oxbowref01. -/
import Derived.Test.YtdhpbfmamkndjaaTextG
namespace Go.Proofs.Ytdhpbfmamkndjaa.Text
open Go.RowKit Ox
set_option linter.unusedVariables false
set_option linter.unusedSimpArgs false

theorem int_at {w : World} {B n : Nat} {A : Option Addr} {l : List Int} (h : Reads w B 1 A n (ints l)) {k : Nat} (hk : k < n) : ∃ ad x, A = some ad ∧ ad.block < B ∧ Hid (l[k]? = some x) ∧ w.cell? (ad.add k) = some (.int .i64 x) := by
  obtain ⟨ad, u, h1, h2, h3, h4⟩ := h.at_ hk
  unfold ints at h3
  rw [List.getElem?_map] at h3
  cases hl : l[k]? with
  | none => rw [hl] at h3; simp at h3
  | some x => rw [hl] at h3; simp only [Option.map_some, Option.some.injEq] at h3; exact ⟨ad, x, h1, h2, rfl, by rw [h4, ← h3]⟩
theorem ints_len {w : World} {B n : Nat} {A : Option Addr} {l : List Int} (h : Reads w B 1 A n (ints l)) : l.length = n := by
  have := h.1
  rw [ints_length] at this
  omega
/-- the text of numbers; none: one is no code point -/
def textOf (l : List Int) : Option Bytes := if l.all isPt = true then some (txt l) else none
def Txt (r : Option Bytes) (w : World) (e : Ending) (w' : World) : Prop :=
  Below w.heap.size w w' ∧ match r with
    | some t => e = .returned (.tuple #[.string ⟨t.toArray⟩, .bool true])
    | none => e = .returned (.tuple #[.string { data := #[] }, .bool false])
structure TxtRel (l : List Int) (w : World) (k : Nat) (v : Value) (wr : World) : Prop where
  own : wr.ownsRow w.heap.size 5 1 v (txt (l.take k)).length (bvs (txt (l.take k)))
  below : Below w.heap.size w wr
  good : (l.take k).all isPt = true
  le : (txt (l.take k)).length ≤ 4 * k

theorem take_snoc {α : Type} {l : List α} {k : Nat} {x : α} (h : l[k]? = some x) : l.take (k + 1) = l.take k ++ [x] := by
  rw [List.take_add_one, h]; rfl
theorem TxtRel.bad {l : List Int} {w : World} {k : Nat} {v : Value} {wr w' : World} (h : TxtRel l w k v wr) {x : Int} (hx : l[k]? = some x) (hp : isPt x = false) (hb : Below w.heap.size w w') : Txt (textOf l) w (.returned (.tuple #[.string { data := #[] }, .bool false])) w' := by
  refine ⟨hb, ?_⟩
  unfold textOf
  rw [if_neg (fun e => by rw [List.all_eq_true] at e; rw [e x (List.mem_of_getElem? hx)] at hp; cases hp)]
theorem TxtRel.step {l : List Int} {w : World} {k : Nat} {v v' : Value} {wr w' : World} (h : TxtRel l w k v wr) {x : Int} (hx : l[k]? = some x) (hp : isPt x = true)
    (ho : w'.ownsRow w.heap.size 5 1 v' ((txt (l.take k)).length + (enc x).length) (bvs (txt (l.take k) ++ enc x))) (hb : Below w.heap.size w w') : TxtRel l w (k + 1) v' w' := by
  have e : txt (l.take (k + 1)) = txt (l.take k) ++ enc x := by rw [take_snoc hx, txt_append]; simp [txt]
  refine ⟨?_, hb, ?_, ?_⟩
  · rw [e, List.length_append]; exact ho
  · rw [take_snoc hx, List.all_append, h.good]; simp [hp]
  · rw [e, List.length_append]
    have := h.le
    have h1 := enc_length x
    have h2 := psz_bd x
    omega
theorem TxtRel.done {l : List Int} {w : World} {k : Nat} {v : Value} {wr : World} (h : TxtRel l w k v wr) (hk : l.length ≤ k) : Txt (textOf l) w (.returned (.tuple #[.string ⟨(txt l).toArray⟩, .bool true])) wr := by
  refine ⟨h.below, ?_⟩
  have := h.good
  rw [List.take_of_length_le hk] at this
  unfold textOf
  rw [if_pos this]
theorem TxtRel.slice {l : List Int} {w : World} {k : Nat} {v : Value} {wr : World} (h : TxtRel l w k v wr) (hk : l.length ≤ k) : ∃ A c n, v = .slice A n c ∧ Reads wr wr.heap.size 1 A n (bvs (txt l)) := by
  obtain ⟨A, c, h1, _, _, h2, _⟩ := own_slice h.own
  rw [List.take_of_length_le hk] at h1 h2
  exact ⟨A, c, _, h1, h2⟩

set_option maxRecDepth 100000 in
theorem text_any (A : Option Addr) (n c B : Nat) (l : List Int) (w : World) (hr : Reads w B 1 A n (ints l)) (hB : B ≤ w.heap.size) (hn : n ≤ 10000000000000) :
    Calls Try.prog 66 #[.slice A n c] w (Txt (textOf l) w) := by
  have hln := Lib.hid (ints_len hr)
  go_enter Try.func66, Try.ntmps66
  go_wp2
  go_loopw [4, 9] (fun v i wr => ∃ k : Nat, k ≤ n ∧ i = .int .i64 k ∧ TxtRel l w k v wr) (fun _ i _ => n - (intOf i).toNat)
  case atStart => exact ⟨0, Nat.zero_le _, rfl, ⟨World.ownsRow_nil _ _ _ _, Below.refl _ _, rfl, Nat.le_refl _⟩⟩
  case round =>
    obtain ⟨k, hk, rfl, hrl⟩ := hrel
    have hle := hrl.le
    by_cases hlt : k < n
    · have hr2 := hr.more hB
      obtain ⟨ad, x, rfl, hbk, hx, hc⟩ := int_at (hr2.below hrl.below) hlt
      clear hr hr2
      by_cases hp : isPt x = true
      · go_wp2_with (first
          | (go_at_call 106; refine (isPoint_any _ _).mono ?_; rintro e w' ⟨rfl, rfl⟩)
          | (go_at_call 107; refine (put_any _ _ _ _ _ _ hrl.below.size hrl.own (by omega) hp).mono ?_; rintro e w1 ⟨v1, rfl, ho1, hb1⟩))
        have hst := hrl.step hx.out hp ho1 (hrl.below.trans hb1)
        go_roundw
        case rel => exact ⟨k + 1, by omega, by go_num, hst⟩
        case measure => simp [intOf]; omega
      · have hp' : isPt x = false := by simpa using hp
        clear hp
        go_wp2_with (first
          | (go_at_call 106; refine (isPoint_any _ _).mono ?_; rintro e w' ⟨rfl, rfl⟩))
        go_ret2
        exact hrl.bad hx.out hp' hrl.below
    · obtain ⟨A1, c1, n1, hv, hrd⟩ := hrl.slice (by rw [hln.out]; omega)
      rw [hv]
      go_wp2_with (refine wpList_toStr (.tmp 20) 107 9 5 rfl rfl Try.underlying107 Try.underlying9 Try.underlying5 rfl hrd ?_)
      go_ret2
      exact hrl.done (by rw [hln.out]; omega)
end Go.Proofs.Ytdhpbfmamkndjaa.Text
