/- A row of atoms that is read. Contract: oxbowref12.Find. -/
import Derived.Test.YtdhpbfmamkndjaaDocG
namespace Go.Proofs.Ytdhpbfmamkndjaa.Doc
open Go.RowKit Ox
set_option linter.unusedVariables false
set_option linter.unusedSimpArgs false
theorem atRows_cons (r : At) (l : List At) : atRows (r :: l) = r.row ++ atRows l := by simp [atRows]
theorem atRows_append (a b : List At) : atRows (a ++ b) = atRows a ++ atRows b := by simp [atRows]
theorem atRows_length : ∀ l : List At, (atRows l).length = 4 * l.length
  | [] => rfl
  | r :: l => by rw [atRows_cons, List.length_append, atRows_length l]; simp [At.row]; omega
theorem atRows_one (l : List At) : ∀ u ∈ atRows l, u.oneCell' = true := by
  intro u hu
  obtain ⟨r, _, hr⟩ := List.mem_flatMap.1 hu
  simp [At.row] at hr
  rcases hr with rfl | rfl | rfl | rfl <;> rfl
theorem atRows_get : ∀ {l : List At} {k : Nat} {r : At}, l[k]? = some r → ∀ j, j < 4 → (atRows l)[k * 4 + j]? = r.row[j]?
  | [], k, r, h, _, _ => by simp at h
  | x :: l, 0, r, h, j, hj => by
    have : x = r := by simpa using h
    subst this
    rw [atRows_cons, List.getElem?_append_left (by simp [At.row]; omega)]
    simp
  | x :: l, k + 1, r, h, j, hj => by
    rw [atRows_cons, List.getElem?_append_right (by simp [At.row]; omega)]
    have h' : l[k]? = some r := by simpa using h
    rw [← atRows_get h' j hj]
    congr 1
    simp [At.row]
    omega
theorem atRows_len {w : World} {B n : Nat} {A : Option Addr} {l : List At} (h : Reads w B 4 A n (atRows l)) : l.length = n := by
  have := h.1
  rw [atRows_length] at this
  omega
theorem atom_at {w : World} {B n : Nat} {A : Option Addr} {l : List At} (h : Reads w B 4 A n (atRows l)) {k : Nat} (hk : k < n) :
    ∃ ad p r, A = some ad ∧ ad.add (k * 4) = p ∧ p.block < B ∧ Hid (l[k]? = some r) ∧ w.cell? p = some (.int .i64 r.c) ∧ w.cell? ⟨p.block, p.off + 1, none⟩ = some (.int .i64 r.s) ∧ w.cell? ⟨p.block, p.off + 2, none⟩ = some (.int .i64 r.n) ∧ w.cell? ⟨p.block, p.off + 3, none⟩ = some (.int .i64 r.p) := by
  have hl := atRows_len h
  obtain ⟨ad, e, hb, hc⟩ := h.2 (by omega)
  have hr : l[k]? = some (l[k]'(by omega)) := List.getElem?_eq_getElem (by omega)
  refine ⟨ad, ad.add (k * 4), l[k]'(by omega), e, rfl, by rw [block_of_add]; exact hb, hr, ?_, ?_, ?_, ?_⟩
  · exact hc (k * 4) _ (by have := atRows_get hr 0 (by omega); simpa [At.row] using this)
  · rw [← add_ne (by omega), add_of_add]
    exact hc (k * 4 + 1) _ (by have := atRows_get hr 1 (by omega); simpa [At.row] using this)
  · rw [← add_ne (by omega), add_of_add]
    exact hc (k * 4 + 2) _ (by have := atRows_get hr 2 (by omega); simpa [At.row] using this)
  · rw [← add_ne (by omega), add_of_add]
    exact hc (k * 4 + 3) _ (by have := atRows_get hr 3 (by omega); simpa [At.row] using this)
/-- the place of an atom among others; -1: it is not there -/
def findOf (l : List At) (a : At) : Int := match l.findIdx? (fun x => isB x a) with | some i => (i : Int) | none => -1
theorem find_hit {l : List At} {a : At} {k : Nat} {x : At} (hx : l[k]? = some x) (h : isB x a = true) (hlt : ∀ (j : Nat) (y : At), j < k → l[j]? = some y → isB y a = false) : findOf l a = k := by
  have e : l.findIdx? (fun x => isB x a) = some k := by
    rw [List.findIdx?_eq_some_iff_getElem]
    obtain ⟨hk, rfl⟩ := List.getElem?_eq_some_iff.1 hx
    refine ⟨hk, h, fun j hj => ?_⟩
    have := hlt j (l[j]'(by omega)) hj (List.getElem?_eq_getElem (by omega))
    simp [this]
  unfold findOf
  rw [e]
theorem find_miss {l : List At} {a : At} (h : ∀ (j : Nat) (y : At), j < l.length → l[j]? = some y → isB y a = false) : findOf l a = -1 := by
  have e : l.findIdx? (fun x => isB x a) = none := by
    rw [List.findIdx?_eq_none_iff]
    intro x hx
    obtain ⟨j, hj, rfl⟩ := List.getElem_of_mem hx
    exact h j _ hj (List.getElem?_eq_getElem hj)
  unfold findOf
  rw [e]
structure FindRel (l : List At) (a : At) (w : World) (k : Nat) (wr : World) : Prop where
  below : Below w.heap.size w wr
  lt : w.heap.size < wr.heap.size
  none_ : ∀ (j : Nat) (y : At), j < k → l[j]? = some y → isB y a = false
  c1 : wr.cell? ⟨w.heap.size, 0, none⟩ = some (.int .i64 a.c)
  c2 : wr.cell? ⟨w.heap.size, 1, none⟩ = some (.int .i64 a.s)
  c3 : wr.cell? ⟨w.heap.size, 2, none⟩ = some (.int .i64 a.n)
  c4 : wr.cell? ⟨w.heap.size, 3, none⟩ = some (.int .i64 a.p)
theorem FindRel.next {l : List At} {a : At} {w wr w' : World} {k : Nat} (h : FindRel l a w k wr) {x : At} (hx : l[k]? = some x) (hn : isB x a = false) (hb : Below wr.heap.size wr w') : FindRel l a w (k + 1) w' := by
  have hl := h.lt
  refine ⟨below_next h.below hb h.below.size, Nat.lt_of_lt_of_le h.lt hb.size, fun j y hj hy => ?_, (hb.cell (by simpa using hl)).trans h.c1, (hb.cell (by simpa using hl)).trans h.c2, (hb.cell (by simpa using hl)).trans h.c3, (hb.cell (by simpa using hl)).trans h.c4⟩
  rcases Nat.lt_or_ge j k with h1 | h1
  · exact h.none_ j y h1 hy
  · obtain rfl : j = k := by omega
    rw [hx] at hy
    cases hy
    exact hn
theorem num_fin {x y : Int} {w w' : World} (h : x = y) (hb : Below w.heap.size w w') : Text.Num y w (.returned (.int .i64 x)) w' := ⟨by rw [h], hb⟩
set_option maxRecDepth 100000 in
theorem find_any (A : Option Addr) (n c B : Nat) (l : List At) (a : At) (w : World) (hr : Reads w B 4 A n (atRows l)) (hB : B ≤ w.heap.size) (hn : n ≤ 100000000000) :
    Calls Try.prog 57 #[.slice A n c, a.val] w (Text.Num (findOf l a) w) := by
  have HL := Lib.hid (atRows_len hr)
  go_enter Try.func57, Try.ntmps57
  unfold At.val
  go_wp2
  go_loopw [5] (fun i wr => ∃ k : Nat, k ≤ n ∧ i = .int .i64 k ∧ FindRel l a w k wr) (fun i _ => n - (intOf i).toNat)
  case atStart =>
    have h1 := Blk.new w 59 #[.int .i64 a.c, .int .i64 a.s, .int .i64 a.n, .int .i64 a.p]
    exact ⟨0, Nat.zero_le _, rfl, (Below.refl _ _).alloc (Nat.le_refl _) _, by simp, fun j y hj => by omega, h1.cell 0, h1.cell 1, h1.cell 2, h1.cell 3⟩
  case round =>
    obtain ⟨k, hk, rfl, hrl⟩ := hrel
    by_cases hlt : k < n
    · obtain ⟨ad, p, x, rfl, hp, hbk, hx, p1, p2, p3, p4⟩ := atom_at ((hr.more hB).below hrl.below) hlt
      have c1 := hrl.c1
      have c2 := hrl.c2
      have c3 := hrl.c3
      have c4 := hrl.c4
      have hI := fun w => is_any x a w
      cases hb : isB x a with
      | true =>
        rw [hb] at hI
        have HI := Lib.hid hI
        have hf := Lib.hid (find_hit hx.out hb hrl.none_)
        clear hI hb
        go_wp2
        refine wp_region_drew (by kernel_rfl) (by kernel_rfl) ?_
        go_wp2_with (go_at_call 44; refine (HI.out _).mono ?_; rintro e w3 ⟨rfl, hb3⟩)
        refine FinQ.intro (by kernel_rfl) ?_
        go_wp2
        go_ret
        exact num_fin hf.out.symm (below_next hrl.below.drew hb3 hrl.below.size)
      | false =>
        rw [hb] at hI
        have HI := Lib.hid hI
        have hst : ∀ w3, Below wr.drew.heap.size wr.drew w3 → FindRel l a w (k + 1) w3 := fun w3 h3 => hrl.next hx.out hb ((Below.refl _ wr).drew.trans h3)
        have HS := Lib.hid hst
        clear hI hb hst
        go_wp2
        refine wp_region_drew (by kernel_rfl) (by kernel_rfl) ?_
        go_wp2_with (go_at_call 44; refine (HI.out _).mono ?_; rintro e w3 ⟨rfl, hb3⟩)
        refine FinQ.intro (by kernel_rfl) ?_
        have HT := Lib.hid (HS.out _ hb3)
        go_wp2
        go_roundw
        case rel => exact ⟨k + 1, by omega, by go_num, HT.out⟩
        case measure => simp [intOf]; omega
    · have hf := Lib.hid (find_miss (l := l) (a := a) fun j y hj hy => hrl.none_ j y (by have := HL.out; omega) hy)
      have hbb := hrl.below
      go_wp2
      go_ret
      exact num_fin hf.out.symm hbb
end Go.Proofs.Ytdhpbfmamkndjaa.Doc
