/- Arguments opened: documents, deltas, origins. -/
import Derived.Test.YtdhpbfmamkndjaaRows
import Derived.Test.YtdhpbfmamkndjaaBulk
import Derived.Test.YtdhpbfmamkndjaaBaseC
import Derived.Test.YtdhpbfmamkndjaaDocO
import Derived.Deep.Slices
import Derived.Deep.Fields
import Derived.ChangeSame
import Derived.ChangeSlices
import Derived.Lib.SmallJoins
namespace Go.Proofs.Ytdhpbfmamkndjaa.Doc
open Go.RowKit Go.ChangeShapes Go.WideShapes Go.Deep Go.ChangeAt Ox
set_option linter.unusedVariables false
set_option linter.unusedSimpArgs false
section
variable {H : Type} {enc : TypeId × Value → H} {W : World}
def Rn.dat (r : Rn) : DataW H := .agg [.agg [.lit (.int .i64 r.c), .lit (.int .i64 r.s)], .lit (.int .i64 r.f), .lit (.string r.t.data.toList)]
def Opn.dat (r : Opn) : DataW H := .agg [.lit (.int .i64 r.k), .lit (.int .i64 r.n), .lit (.string r.t.data.toList)]
set_option maxRecDepth 100000 in
theorem open_run {n : Nat} {cs : List Value} {x : DataW H × List MemPlace} (h : DataW.trod enc Try.prog W 0 (fun _ => true) true n 37 cs = some x) : ∃ r : Rn, cs = r.row ∧ x.1 = r.dat := by
  obtain ⟨xs, n1, _, rfl, hl, hlen, hf⟩ := DataW.trod_struct Try.underlying37 h
  rw [cells_run] at hl
  match cs, hl, xs, hlen with
  | [v0, v1, v2, v3], _, [x0, x1, x2], _ =>
    have h0 := hf 0 _ rfl
    have h1 := hf 1 _ rfl
    have h2 := hf 2 _ rfl
    obtain ⟨y0, y1, n2, e0, _, g0, g1⟩ := trod_struct2 Try.underlying35 h0
    obtain ⟨a, ha, ea, _⟩ := DataW.trod_int Try.underlying3 g0
    obtain ⟨b, hb, eb, _⟩ := DataW.trod_int Try.underlying3 g1
    obtain ⟨c, hc, ec, _⟩ := DataW.trod_int Try.underlying3 h1
    obtain ⟨t, ht, et, _⟩ := DataW.trod_string Try.underlying9 h2
    have q1 : Try.prog.cellsOf 3 = 1 := by kernel_rfl
    have q2 : Try.prog.cellsOf 9 = 1 := by kernel_rfl
    refine ⟨⟨a, b, c, t⟩, ?_, ?_⟩
    · have k0 : v0 = .int .i64 a := by simpa [q1, q2, cells_origin] using ha
      have k1 : v1 = .int .i64 b := by simpa [q1, q2, cells_origin] using hb
      have k2 : v2 = .int .i64 c := by simpa [q1, q2, cells_origin] using hc
      have k3 : v3 = .string t := by simpa [q1, q2, cells_origin] using ht
      rw [k0, k1, k2, k3]
      rfl
    · rw [ea, eb] at e0
      simp only [List.map_cons, List.map_nil, Rn.dat]
      rw [e0, ec, et]
theorem pick {α : Type} {P : Nat → α → Prop} {n : Nat} (h : ∀ i, i < n → ∃ r, P i r) : ∃ l : List α, l.length = n ∧ ∀ i r, l[i]? = some r → P i r := by
  induction n with
  | zero => exact ⟨[], rfl, fun i r h => by simp at h⟩
  | succ n ih =>
    obtain ⟨l, hl, hp⟩ := ih fun i hi => h i (by omega)
    obtain ⟨r, hr⟩ := h n (by omega)
    refine ⟨l ++ [r], by simp [hl], fun i x hx => ?_⟩
    rcases Nat.lt_or_ge i n with h1 | h1
    · rw [List.getElem?_append_left (by omega)] at hx
      exact hp i x hx
    · have h2 := (List.getElem?_eq_some_iff.1 hx).1
      simp at h2
      obtain rfl : i = n := by omega
      rw [List.getElem?_append_right (by omega), hl] at hx
      have : r = x := by simpa using hx
      rw [← this]; exact hr
theorem has_lt {P : Program} {r : Reach} {base : Nat} {a : Addr} {e : TypeId} {n : Nat} (h : W.has P r base a e n) : a.block < W.heap.size := by
  obtain ⟨_, _, row, cells, hs, _⟩ := h
  unfold World.shape? at hs
  rcases Nat.lt_or_ge a.block W.heap.size with h1 | h1
  · exact h1
  · rw [Array.getElem?_eq_none h1] at hs
    simp at hs
theorem slice_lt {P : Program} {t e : TypeId} {b0 : Nat} {A : Option Addr} {n c : Nat} (ht : P.underlying t = some (.slice e)) (h : Value.okWide P W .any b0 t (.slice A n c)) : ∀ ad, A = some ad → ad.block < W.heap.size := by
  rintro ad rfl
  simp only [Value.okWide, ht, Cell.okWide, Cell.ok] at h
  exact has_lt h.2.2
theorem bulk_runs : ∀ l : List Rn, (bytesOf l).length + l.length ≤ Rows.uptoBulkAll (l.map (Rn.dat (H := H)))
  | [] => by simp [bytesOf, Rows.uptoBulkAll]
  | r :: l => by
    have h := bulk_runs l
    have e : bytesOf (r :: l) = r.t.data.toList ++ bytesOf l := by simp [bytesOf]
    rw [e, List.length_append, List.map_cons]
    simp only [Rows.uptoBulkAll, Rn.dat, Rows.uptoBulk, List.length_cons]
    omega
set_option maxRecDepth 100000 in
theorem open_runs {b0 : Nat} {v : Value} {d : DataW H} {p : List MemPlace} (hval : Value.okWide Try.prog W .any b0 30 v) (hd : DataW.Trod enc Try.prog W 0 (fun _ => true) true 30 v d p) :
    ∃ (A : Option Addr) (n c : Nat) (l : List Rn), v = .slice A n c ∧ n ≤ c ∧ (∀ ad, A = some ad → ad.block < W.heap.size) ∧ Reads W W.heap.size 4 A n (rows l) ∧ (bytesOf l).length + l.length ≤ Rows.uptoBulk d := by
  obtain ⟨A, n, c, rfl⟩ := okWide_slice Try.underlying30 hval
  have hA := slice_lt Try.underlying30 hval
  obtain ⟨fuel, hf⟩ := hd
  rcases open_slice Try.underlying30 hf with ⟨hcs, hx⟩ | ⟨a, len, cap, m, n1, D, Pl, hcs, hb, hl, hm, hmm, hx, hi⟩
  · simp [Value.cells] at hcs
    obtain ⟨rfl, rfl, rfl⟩ := hcs
    exact ⟨none, 0, 0, [], rfl, Nat.le_refl _, hA, Reads.none_, by simp [bytesOf]⟩
  · simp [Value.cells] at hcs
    obtain ⟨rfl, rfl, rfl⟩ := hcs
    simp only [if_true] at hmm
    subst hmm
    simp only [Prod.mk.injEq] at hx
    have hp : ∀ i, i < n → ∃ r : Rn, W.cells? 0 (a.add (i * 4)) 4 = some r.row ∧ D i = r.dat := fun i hin => by
      obtain ⟨cs', h1, h2⟩ := hi i (by omega)
      rw [cells_run] at h1
      obtain ⟨r, rfl, e⟩ := open_run h2
      exact ⟨r, h1, e⟩
    obtain ⟨l, hll, hlp⟩ := pick hp
    refine ⟨some a, n, m, l, rfl, hl, hA, ⟨by rw [rows_length]; omega, fun hn => ⟨a, rfl, hA a rfl, fun j u hu => ?_⟩⟩, ?_⟩
    · have hj : j < 4 * l.length := by have := (List.getElem?_eq_some_iff.1 hu).1; rw [rows_length] at this; exact this
      have hi4 : j / 4 < l.length := by omega
      have hr := hlp (j / 4) _ (List.getElem?_eq_getElem hi4)
      obtain ⟨_, _, hat⟩ := World.cells?_some hr.1
      have h2 := hat (j % 4) (by omega)
      rw [Ox.add_of_add, show j / 4 * 4 + j % 4 = j by omega] at h2
      rw [h2, ← rows_get (List.getElem?_eq_getElem hi4) (j % 4) (by omega), show j / 4 * 4 + j % 4 = j by omega]
      exact hu
    · rw [hx.1]
      have e : (List.range n).map D = l.map Rn.dat := by
        apply List.ext_getElem?
        intro i
        rw [List.getElem?_map, List.getElem?_map]
        by_cases h : i < n
        · rw [List.getElem?_range h, List.getElem?_eq_getElem (show i < l.length by omega)]
          simp only [Option.map_some, Option.some.injEq]
          exact (hlp i _ (List.getElem?_eq_getElem (show i < l.length by omega))).2
        · rw [List.getElem?_eq_none (by simpa using h), List.getElem?_eq_none (by omega)]
          rfl
      rw [e]
      have h1 := bulk_runs (H := H) l
      have h2 := bulks.slice_elems (l.map (Rn.dat (H := H))) ((List.range (m - n)).map fun j => D (n + j))
      omega
theorem int_bd {x : Int} (h : (Lit.int .i64 x).wf = true) : -9223372036854775808 ≤ x ∧ x ≤ 9223372036854775807 := by
  simpa [Lit.wf, IntKind.min, IntKind.max, IntKind.signed, IntKind.bits] using h
end
end Go.Proofs.Ytdhpbfmamkndjaa.Doc
