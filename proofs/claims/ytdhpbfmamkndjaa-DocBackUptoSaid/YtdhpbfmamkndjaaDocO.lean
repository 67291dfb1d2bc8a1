/- Operations as values. Contracts: delta.kind, delta.lengths, delta.Base. -/
import Derived.Test.YtdhpbfmamkndjaaDocM
namespace Go.Proofs.Ytdhpbfmamkndjaa.Doc
open Go.RowKit Ox
set_option linter.unusedVariables false
set_option linter.unusedSimpArgs false
theorem cells_op : Try.prog.cellsOf 57 = 3 := by kernel_rfl
/-- an operation: kind, number, text -/
structure Opn where
  k : Int
  n : Int
  t : ByteArray
def Opn.val (r : Opn) : Value := .agg #[.int .i64 r.k, .int .i64 r.n, .string r.t]
def Opn.row (r : Opn) : List Value := [.int .i64 r.k, .int .i64 r.n, .string r.t]
def opRows (l : List Opn) : List Value := l.flatMap Opn.row
theorem opRows_cons (r : Opn) (l : List Opn) : opRows (r :: l) = r.row ++ opRows l := by simp [opRows]
theorem opRows_append (a b : List Opn) : opRows (a ++ b) = opRows a ++ opRows b := by simp [opRows]
theorem opRows_length : ∀ l : List Opn, (opRows l).length = 3 * l.length
  | [] => rfl
  | r :: l => by rw [opRows_cons, List.length_append, opRows_length l]; simp [Opn.row]; omega
theorem opRows_one (l : List Opn) : ∀ u ∈ opRows l, u.oneCell' = true := by
  intro u hu
  obtain ⟨r, _, hr⟩ := List.mem_flatMap.1 hu
  simp [Opn.row] at hr
  rcases hr with rfl | rfl | rfl <;> rfl
theorem opRows_get : ∀ {l : List Opn} {k : Nat} {r : Opn}, l[k]? = some r → ∀ j, j < 3 → (opRows l)[k * 3 + j]? = r.row[j]?
  | [], k, r, h, _, _ => by simp at h
  | x :: l, 0, r, h, j, hj => by
    have : x = r := by simpa using h
    subst this
    rw [opRows_cons, List.getElem?_append_left (by simp [Opn.row]; omega)]
    simp
  | x :: l, k + 1, r, h, j, hj => by
    rw [opRows_cons, List.getElem?_append_right (by simp [Opn.row]; omega)]
    have h' : l[k]? = some r := by simpa using h
    rw [← opRows_get h' j hj]
    congr 1
    simp [Opn.row]
    omega
theorem opRows_len {w : World} {B n : Nat} {A : Option Addr} {l : List Opn} (h : Reads w B 3 A n (opRows l)) : l.length = n := by
  have := h.1
  rw [opRows_length] at this
  omega
theorem op_at {w : World} {B n : Nat} {A : Option Addr} {l : List Opn} (h : Reads w B 3 A n (opRows l)) {k : Nat} (hk : k < n) :
    ∃ ad p r, A = some ad ∧ ad.add (k * 3) = p ∧ p.block < B ∧ Hid (l[k]? = some r) ∧ w.cell? p = some (.int .i64 r.k) ∧ w.cell? ⟨p.block, p.off + 1, none⟩ = some (.int .i64 r.n) ∧ w.cell? ⟨p.block, p.off + 2, none⟩ = some (.string r.t) := by
  have hl := opRows_len h
  obtain ⟨ad, e, hb, hc⟩ := h.2 (by omega)
  have hr : l[k]? = some (l[k]'(by omega)) := List.getElem?_eq_getElem (by omega)
  refine ⟨ad, ad.add (k * 3), l[k]'(by omega), e, rfl, by rw [block_of_add]; exact hb, hr, ?_, ?_, ?_⟩
  · exact hc (k * 3) _ (by have := opRows_get hr 0 (by omega); simpa [Opn.row] using this)
  · rw [← add_ne (by omega), add_of_add]
    exact hc (k * 3 + 1) _ (by have := opRows_get hr 1 (by omega); simpa [Opn.row] using this)
  · rw [← add_ne (by omega), add_of_add]
    exact hc (k * 3 + 2) _ (by have := opRows_get hr 2 (by omega); simpa [Opn.row] using this)
def lenO (x : Opn) : Int := Text.lenOf x.t.data.toList
/-- which operation it is: 1 a keep, 3 a delete, 2 an insert; 0: none -/
def kOf (x : Opn) : Nat :=
  if x.k = 1 ∧ x.t.toList = [] ∧ 1 ≤ x.n ∧ x.n ≤ 1000 then 1 else if x.k = 3 ∧ x.t.toList = [] ∧ 1 ≤ x.n ∧ x.n ≤ 1000 then 3 else if x.k = 2 ∧ x.n = 0 ∧ 0 < lenO x then 2 else 0
def kindV (x : Opn) : Value := match kOf x with
  | 1 => .iface 171 (.int .i64 x.n)
  | 3 => .iface 172 (.int .i64 x.n)
  | 2 => .iface 173 (.string x.t)
  | _ => .nilIface
def Val_ (v : Value) (w : World) (e : Ending) (w' : World) : Prop := e = .returned v ∧ Below w.heap.size w w'
theorem ret_v {a b : Value} (h : a = b) : Ending.returned a = .returned b := by rw [h]
theorem lenO_nil {x : Opn} (h : x.t.toList = []) : lenO x = 0 := by
  unfold lenO
  rw [← ByteArray.toList_eq, h]
  rfl
set_option maxRecDepth 100000 in
set_option maxHeartbeats 4000000 in
theorem kind_any (x : Opn) (w : World) (hz : x.t.size ≤ 10000000000000) : Calls Try.prog 124 #[x.val] w (Val_ (kindV x) w) := by
  have hL := fun w => Text.len_any x.t w hz
  change ∀ w, Calls Try.prog 67 #[.string x.t] w (Text.Num (lenO x) w) at hL
  have HLn := Lib.hid hL
  clear hL
  have hz0 := @lenO_nil x
  unfold kindV kOf
  obtain ⟨k, n, t⟩ := x
  simp only at hz0 ⊢
  generalize lenO ⟨k, n, t⟩ = z at *
  have hbl := fun (o : Obj) => (Below.refl w.heap.size w).alloc (Nat.le_refl _) o
  unfold Opn.val
  dsimp only
  clear hbl
  by_cases a1 : k = 1 ∧ t.toList = [] ∧ 1 ≤ n ∧ n ≤ 1000
  · rw [if_pos a1]
    obtain ⟨rfl, he, n1, n2⟩ := a1
    have he' : (!t.toList.isEmpty) = false := by simp [he]
    clear hz0
    go_enter Try.func124, Try.ntmps124
    go_wp2_with (go_at_call 67; refine (HLn.out _).mono ?_; rintro e w2 ⟨rfl, hb2⟩)
    go_ret
    exact ⟨rfl, by first | exact (Below.refl w.heap.size w).alloc (Nat.le_refl _) _ | exact below_next ((Below.refl w.heap.size w).alloc (Nat.le_refl _) _) hb2 (by simp)⟩
  · rw [if_neg a1]
    by_cases a3 : k = 3 ∧ t.toList = [] ∧ 1 ≤ n ∧ n ≤ 1000
    · rw [if_pos a3]
      obtain ⟨rfl, he, n1, n2⟩ := a3
      have he' : (!t.toList.isEmpty) = false := by simp [he]
      clear hz0 a1
      go_enter Try.func124, Try.ntmps124
      go_wp2_with (go_at_call 67; refine (HLn.out _).mono ?_; rintro e w2 ⟨rfl, hb2⟩)
      go_ret
      exact ⟨rfl, by first | exact (Below.refl w.heap.size w).alloc (Nat.le_refl _) _ | exact below_next ((Below.refl w.heap.size w).alloc (Nat.le_refl _) _) hb2 (by simp)⟩
    · rw [if_neg a3]
      by_cases a2 : k = 2 ∧ n = 0 ∧ 0 < z
      · rw [if_pos a2]
        obtain ⟨rfl, rfl, hz2⟩ := a2
        have he : ¬ t.toList = [] := fun h => by have := hz0 h; omega
        have he' : (!t.toList.isEmpty) = true := by simp [he]
        clear hz0 a1 a3
        go_enter Try.func124, Try.ntmps124
        go_wp2_with (go_at_call 67; refine (HLn.out _).mono ?_; rintro e w2 ⟨rfl, hb2⟩; have hcc := hb2.cell (p := ⟨w.heap.size, 2, none⟩) (by simp))
        go_ret
        exact ⟨rfl, by first | exact (Below.refl w.heap.size w).alloc (Nat.le_refl _) _ | exact below_next ((Below.refl w.heap.size w).alloc (Nat.le_refl _) _) hb2 (by simp)⟩
      · rw [if_neg a2]
        have hk : k = 1 ∨ k = 3 ∨ k = 2 ∨ (k ≠ 1 ∧ k ≠ 3 ∧ k ≠ 2) := by omega
        have hn : (1 ≤ n ∧ n ≤ 1000) ∨ n = 0 ∨ (n < 0) ∨ (1 ≤ n ∧ 1000 < n) := by omega
        have hzz : 0 < z ∨ z ≤ 0 := by omega
        by_cases he : t.toList = []
        · have hz1 := hz0 he
          have he' : (!t.toList.isEmpty) = false := by simp [he]
          clear hz0 hzz
          rcases hk with k1 | k1 | k1 | ⟨k1, k2, k3⟩ <;> rcases hn with ⟨n1, n2⟩ | n1 | n1 | ⟨n1, n2⟩
          all_goals first
            | (exfalso; apply a1; refine ⟨?_, ?_, ?_, ?_⟩ <;> first | assumption | omega)
            | (exfalso; apply a3; refine ⟨?_, ?_, ?_, ?_⟩ <;> first | assumption | omega)
            | (clear a1 a2 a3
               subst hz1
               try subst k1
               try subst n1
               go_enter Try.func124, Try.ntmps124
               go_wp2_with (go_at_call 67; refine (HLn.out _).mono ?_; rintro e w2 ⟨rfl, hb2⟩)
               go_ret
               exact ⟨rfl, by first | exact (Below.refl w.heap.size w).alloc (Nat.le_refl _) _ | exact below_next ((Below.refl w.heap.size w).alloc (Nat.le_refl _) _) hb2 (by simp)⟩
               skip)
        · have he' : (!t.toList.isEmpty) = true := by simp [he]
          clear hz0
          rcases hk with k1 | k1 | k1 | ⟨k1, k2, k3⟩ <;> rcases hn with ⟨n1, n2⟩ | n1 | n1 | ⟨n1, n2⟩ <;> rcases hzz with z1 | z1
          all_goals first
            | (exfalso; apply a2; refine ⟨?_, ?_, ?_⟩ <;> first | assumption | omega)
            | (clear a1 a2 a3
               try subst k1
               try subst n1
               go_enter Try.func124, Try.ntmps124
               go_wp2_with (go_at_call 67; refine (HLn.out _).mono ?_; rintro e w2 ⟨rfl, hb2⟩)
               go_ret
               exact ⟨rfl, by first | exact (Below.refl w.heap.size w).alloc (Nat.le_refl _) _ | exact below_next ((Below.refl w.heap.size w).alloc (Nat.le_refl _) _) hb2 (by simp)⟩
               skip)
end Go.Proofs.Ytdhpbfmamkndjaa.Doc
