/- Documents as values: a slice of runs that is read. Contracts: doc.isOrigin, oxbowref12.origin, Same, Text (both), oxbowlaw12.Copied. -/
import Derived.Test.YtdhpbfmamkndjaaProg
import Derived.Test.YtdhpbfmamkndjaaTx
import Derived.Test.YtdhpbfmamkndjaaBase
import Derived.Test.YtdhpbfmamkndjaaBaseB
import Derived.WalkKit
import Derived.Deep.QuietTactic
import Derived.BigQuiet
import Derived.WalkLawsBesides
import Derived.WalkSpells
import Derived.Handy
import Derived.Lib.Hide
namespace Go.Proofs.Ytdhpbfmamkndjaa.Doc
open Go.RowKit Ox
set_option linter.unusedVariables false
set_option linter.unusedSimpArgs false
theorem cells_origin : Try.prog.cellsOf 35 = 2 := by kernel_rfl
theorem cells_run : Try.prog.cellsOf 37 = 4 := by kernel_rfl

/-- a run: client, sequence number, from, text -/
structure Rn where
  c : Int
  s : Int
  f : Int
  t : ByteArray
instance : DecidableEq Rn := fun a b => decidable_of_iff (a.c = b.c ∧ a.s = b.s ∧ a.f = b.f ∧ a.t = b.t) (by cases a; cases b; simp)
def Rn.val (r : Rn) : Value := .agg #[.int .i64 r.c, .int .i64 r.s, .int .i64 r.f, .string r.t]
def Rn.row (r : Rn) : List Value := [.int .i64 r.c, .int .i64 r.s, .int .i64 r.f, .string r.t]
def rows (l : List Rn) : List Value := l.flatMap Rn.row
theorem rows_cons (r : Rn) (l : List Rn) : rows (r :: l) = r.row ++ rows l := by simp [rows]
theorem rows_append (a b : List Rn) : rows (a ++ b) = rows a ++ rows b := by simp [rows]
theorem rows_length : ∀ l : List Rn, (rows l).length = 4 * l.length
  | [] => rfl
  | r :: l => by rw [rows_cons, List.length_append, rows_length l]; simp [Rn.row]; omega
theorem rows_one (l : List Rn) : ∀ u ∈ rows l, u.oneCell' = true := by
  intro u hu
  obtain ⟨r, _, hr⟩ := List.mem_flatMap.1 hu
  simp [Rn.row] at hr
  rcases hr with rfl | rfl | rfl | rfl <;> rfl
theorem rows_get : ∀ {l : List Rn} {k : Nat} {r : Rn}, l[k]? = some r → ∀ j, j < 4 → (rows l)[k * 4 + j]? = r.row[j]?
  | [], k, r, h, _, _ => by simp at h
  | x :: l, 0, r, h, j, hj => by
    have : x = r := by simpa using h
    subst this
    rw [rows_cons, List.getElem?_append_left (by simp [Rn.row]; omega)]
    simp
  | x :: l, k + 1, r, h, j, hj => by
    rw [rows_cons, List.getElem?_append_right (by simp [Rn.row]; omega)]
    have h' : l[k]? = some r := by simpa using h
    rw [← rows_get h' j hj]
    congr 1
    simp [Rn.row]
    omega
theorem rows_len {w : World} {B n : Nat} {A : Option Addr} {l : List Rn} (h : Reads w B 4 A n (rows l)) : l.length = n := by
  have := h.1
  rw [rows_length] at this
  omega
theorem add_ne {a : Addr} {j : Nat} (h : 0 < j) : a.add j = ⟨a.block, a.off + j, none⟩ := by unfold Addr.add; rw [if_neg (by omega)]
/-- a run of a document that is read, cell by cell -/
theorem run_at {w : World} {B n : Nat} {A : Option Addr} {l : List Rn} (h : Reads w B 4 A n (rows l)) {k : Nat} (hk : k < n) :
    ∃ ad p r, A = some ad ∧ ad.add (k * 4) = p ∧ p.block < B ∧ Hid (l[k]? = some r) ∧ w.cell? p = some (.int .i64 r.c) ∧ w.cell? ⟨p.block, p.off + 1, none⟩ = some (.int .i64 r.s) ∧ w.cell? ⟨p.block, p.off + 2, none⟩ = some (.int .i64 r.f) ∧ w.cell? ⟨p.block, p.off + 3, none⟩ = some (.string r.t) := by
  have hl := rows_len h
  obtain ⟨ad, e, hb, hc⟩ := h.2 (by omega)
  have hr : l[k]? = some (l[k]'(by omega)) := List.getElem?_eq_getElem (by omega)
  refine ⟨ad, ad.add (k * 4), l[k]'(by omega), e, rfl, by rw [block_of_add]; exact hb, hr, ?_, ?_, ?_, ?_⟩
  · exact hc (k * 4) _ (by have := rows_get hr 0 (by omega); simpa [Rn.row] using this)
  · rw [← add_ne (by omega), add_of_add]
    exact hc (k * 4 + 1) _ (by have := rows_get hr 1 (by omega); simpa [Rn.row] using this)
  · rw [← add_ne (by omega), add_of_add]
    exact hc (k * 4 + 2) _ (by have := rows_get hr 2 (by omega); simpa [Rn.row] using this)
  · rw [← add_ne (by omega), add_of_add]
    exact hc (k * 4 + 3) _ (by have := rows_get hr 3 (by omega); simpa [Rn.row] using this)

def orgB (c s : Int) : Bool := decide (0 ≤ c ∧ c ≤ 8 ∧ 1 ≤ s ∧ s ≤ 100000)
def Bool_ (x : Bool) (w : World) (e : Ending) (w' : World) : Prop := e = .returned (.bool x) ∧ Below w.heap.size w w'
theorem bool_of {x y : Bool} {w w' : World} (h : x = y) (hb : Below w.heap.size w w') : Bool_ y w (.returned (.bool x)) w' := ⟨by rw [h], hb⟩
theorem isOrigin_any (c s : Int) (w : World) : Calls Try.prog 68 #[.agg #[.int .i64 c, .int .i64 s]] w (Bool_ (orgB c s) w) := by
  have parts : (orgB c s = false ∧ ¬ 0 ≤ c) ∨ (orgB c s = false ∧ 0 ≤ c ∧ ¬ c ≤ 8) ∨ (orgB c s = false ∧ 0 ≤ c ∧ c ≤ 8 ∧ ¬ 1 ≤ s) ∨ (orgB c s = false ∧ 0 ≤ c ∧ c ≤ 8 ∧ 1 ≤ s ∧ ¬ s ≤ 100000) ∨ (orgB c s = true ∧ 0 ≤ c ∧ c ≤ 8 ∧ 1 ≤ s ∧ s ≤ 100000) := by
    simp only [orgB, decide_eq_false_iff_not, decide_eq_true_eq]; omega
  rcases parts with ⟨e, h1⟩ | ⟨e, h1, h2⟩ | ⟨e, h1, h2, h3⟩ | ⟨e, h1, h2, h3, h4⟩ | ⟨e, h1, h2, h3, h4⟩
  all_goals
    rw [e]
    clear e
    go_enter Try.func68, Try.ntmps68
    go_wp2
    go_ret
    exact bool_of rfl ((Below.refl _ _).alloc (Nat.le_refl _) _)
theorem origin_any (c s : Int) (w : World) : Calls Try.prog 71 #[.agg #[.int .i64 c, .int .i64 s]] w (Bool_ (orgB c s) w) := by
  have parts : (orgB c s = false ∧ ¬ 0 ≤ c) ∨ (orgB c s = false ∧ 0 ≤ c ∧ ¬ c ≤ 8) ∨ (orgB c s = false ∧ 0 ≤ c ∧ c ≤ 8 ∧ ¬ 1 ≤ s) ∨ (orgB c s = false ∧ 0 ≤ c ∧ c ≤ 8 ∧ 1 ≤ s ∧ ¬ s ≤ 100000) ∨ (orgB c s = true ∧ 0 ≤ c ∧ c ≤ 8 ∧ 1 ≤ s ∧ s ≤ 100000) := by
    simp only [orgB, decide_eq_false_iff_not, decide_eq_true_eq]; omega
  rcases parts with ⟨e, h1⟩ | ⟨e, h1, h2⟩ | ⟨e, h1, h2, h3⟩ | ⟨e, h1, h2, h3, h4⟩ | ⟨e, h1, h2, h3, h4⟩
  all_goals
    rw [e]
    clear e
    go_enter Try.func71, Try.ntmps71
    go_wp2
    go_ret
    exact bool_of rfl ((Below.refl _ _).alloc (Nat.le_refl _) _)
/-! ### Same -/
structure SameRel (l1 l2 : List Rn) (w : World) (k : Nat) (wr : World) : Prop where
  le : k ≤ l1.length
  below : Below w.heap.size w wr
  eqn : l1.take k = l2.take k
theorem take_snoc {α : Type} {l : List α} {k : Nat} {x : α} (h : l[k]? = some x) : l.take (k + 1) = l.take k ++ [x] := by
  rw [List.take_add_one, h]; rfl
theorem same_ne {l1 l2 : List Rn} {k : Nat} {x y : Rn} (hx : l1[k]? = some x) (hy : l2[k]? = some y) (hn : x ≠ y) : false = decide (l1 = l2) := by
  symm; rw [decide_eq_false_iff_not]; rintro rfl; rw [hx] at hy; exact hn (by simpa using hy)

theorem SameRel.step {l1 l2 : List Rn} {w wr w' : World} {k : Nat} {x y : Rn} (h : SameRel l1 l2 w k wr) (hx : l1[k]? = some x) (hy : l2[k]? = some y) (hn : x = y) (hb : Below w.heap.size w w') : SameRel l1 l2 w (k + 1) w' := by
  subst hn
  exact ⟨(List.getElem?_eq_some_iff.1 hx).1, hb, by rw [take_snoc hx, take_snoc hy, h.eqn]⟩
theorem SameRel.done {l1 l2 : List Rn} {w wr : World} {k : Nat} (h : SameRel l1 l2 w k wr) (hl : l1.length = l2.length) (hk : l1.length ≤ k) : true = decide (l1 = l2) := by
  have := h.eqn
  rw [List.take_of_length_le hk, List.take_of_length_le (by omega)] at this
  simp [this]
theorem bytes_eq {a b : ByteArray} (h : a.toList = b.toList) : a = b := by
  rw [ByteArray.toList_eq, ByteArray.toList_eq] at h
  exact ByteArray.ext (Array.toList_inj.1 h)
theorem rn_eq {x y : Rn} (h1 : x.c = y.c) (h2 : x.s = y.s) (h3 : x.f = y.f) (h4 : x.t.toList = y.t.toList) : x = y := by
  have := bytes_eq h4
  cases x; cases y; simp_all
theorem rn_ne {x y : Rn} (h : ¬ x.c = y.c ∨ ¬ x.s = y.s ∨ ¬ x.f = y.f ∨ ¬ x.t.toList = y.t.toList) : x ≠ y := by rintro rfl; simp at h
set_option maxRecDepth 100000 in
theorem same_any (A1 A2 : Option Addr) (n1 c1 B1 n2 c2 B2 : Nat) (l1 l2 : List Rn) (w : World) (h1 : Reads w B1 4 A1 n1 (rows l1)) (h2 : Reads w B2 4 A2 n2 (rows l2)) (hB1 : B1 ≤ w.heap.size) (hB2 : B2 ≤ w.heap.size) (hn : n1 ≤ 10000000000000) (hn2 : n2 ≤ 10000000000000) :
    Calls Try.prog 37 #[.slice A1 n1 c1, .slice A2 n2 c2] w (Bool_ (decide (l1 = l2)) w) := by
  have hl1 := Lib.hid (rows_len h1)
  have hl2 := Lib.hid (rows_len h2)
  by_cases hl : n1 = n2
  · subst hl
    have hl : l1.length = l2.length := by rw [hl1.out, hl2.out]
    have HL := Lib.hid hl
    clear hl
    go_enter Try.func37, Try.ntmps37
    go_wp2
    go_loopw [5] (fun i wr => ∃ k : Nat, i = .int .i64 k ∧ SameRel l1 l2 w k wr) (fun i _ => n1 - (intOf i).toNat)
    case atStart => exact ⟨0, rfl, Nat.zero_le _, Below.refl _ _, rfl⟩
    case round =>
      obtain ⟨k, rfl, hr⟩ := hrel
      have hk := hr.le
      rw [hl1.out] at hk
      by_cases hlt : k < n1
      · obtain ⟨ad1, p, x, rfl, hp, hbk1, hx, p1, p2, p3, p4⟩ := run_at ((h1.more hB1).below hr.below) hlt
        obtain ⟨ad2, q, y, rfl, hq, hbk2, hy, q1, q2, q3, q4⟩ := run_at ((h2.more hB2).below hr.below) hlt
        have hr1 := Lib.hid h1
        have hr2 := Lib.hid h2
        clear h1 h2
        go_wp2
        refine wp_region_drew (by kernel_rfl) (by kernel_rfl) ?_
        go_wp2
        all_goals first
          | (have hxy : x = y := rn_eq (by assumption) (by assumption) (by assumption) (by assumption)
             have hst := hr.step hx.out hy.out hxy hr.below.drew
             refine FinQ.intro (by kernel_rfl) ?_
             go_wp2
             go_roundw
             case rel => exact ⟨k + 1, by go_num, hst⟩
             case measure => simp [intOf]; omega)
          | (have hne := same_ne hx.out hy.out (rn_ne (by first | exact .inl (by assumption) | exact .inr (.inl (by assumption)) | exact .inr (.inr (.inl (by assumption))) | exact .inr (.inr (.inr (by assumption)))))
             refine FinQ.intro (by kernel_rfl) ?_
             go_wp2
             go_ret
             exact bool_of hne hr.below.drew)
      · go_wp2
        go_ret
        exact bool_of (hr.done HL.out (by rw [hl1.out]; omega)) hr.below
  · have hne : false = decide (l1 = l2) := by
      symm; rw [decide_eq_false_iff_not]; rintro rfl; exact hl (by rw [← hl1.out, ← hl2.out])
    clear hl1 hl2
    go_enter Try.func37, Try.ntmps37
    go_wp2
    go_ret
    exact bool_of hne (Below.refl _ _)
end Go.Proofs.Ytdhpbfmamkndjaa.Doc
