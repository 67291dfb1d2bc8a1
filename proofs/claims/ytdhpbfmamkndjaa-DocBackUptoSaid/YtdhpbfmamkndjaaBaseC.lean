/- A law's row closed: it returned true and turned nothing that was there. Over any program, whatever the arguments' types. -/
import Derived.Test.YtdhpbfmamkndjaaBase
import Derived.ProofKit
import Derived.OpenShut
import Derived.OpenVars
import Derived.JoinedCond
import Derived.ChangeSlices
namespace Ox
open Go Go.RowKit Go.ChangeShapes Go.WideShapes Go.ChangeAt
set_option linter.unusedVariables false
section
variable {H : Type} {enc : TypeId × Value → H} {P : Program}
def readables (P : Program) (ts : List TypeId) : Bool := ts.all fun t => P.readableRec t && decide (t < P.types.size)
theorem trodAll_stays (hl : laidOutB P = true) {W W' : World} (hb : Below W.heap.size W W') {sp : Nat → Bool} :
    ∀ {ts : List TypeId} {vs : List Value} {ds : List (DataW H)} {ps : List MemPlace}, readables P ts = true → DataW.TrodAll enc P W 0 (fun _ => true) true ts vs ds ps → (∀ p ∈ ps, p.block < W.heap.size) → (∀ p ∈ ps, sp p.block = true) →
      DataW.TrodAll enc P W' 0 sp true ts vs ds ps
  | [], [], [], _, _, h, _, _ => h
  | [], _ :: _, _, _, _, h, _, _ => by cases h
  | [], [], _ :: _, _, _, h, _, _ => by cases h
  | _ :: _, [], _, _, _, h, _, _ => by cases h
  | _ :: _, _ :: _, [], _, _, h, _, _ => by cases h
  | t :: ts, v :: vs, d :: ds, ps, hr, h, hlt, hsp => by
    obtain ⟨p, q, h1, h2, rfl⟩ := h
    simp only [readables, List.all_cons, Bool.and_eq_true, decide_eq_true_eq] at hr
    exact ⟨p, q, WideElems.Trod_stays hl hr.1.1 hr.1.2 h1 (fun x hx => hb.same (hlt x (List.mem_append_left _ hx))) (fun x hx => hsp x (List.mem_append_left _ hx)),
      trodAll_stays hl hb (by simpa [readables] using hr.2) h2 (fun x hx => hlt x (List.mem_append_right _ hx)) (fun x hx => hsp x (List.mem_append_right _ hx)), rfl⟩
/-- 'true; each argument reads as it did' -/
theorem law_post {f : Func} {s : ChangeSpec} {W W' : World} {args : Array Value} {ds gs : List (DataW H)} {before : List MemPlace} {tb : TypeId}
    (hl : laidOutB P = true) (hr : readables P f.params.toList = true) (hv : s.vars = []) (hW : DataW.Whole enc P f.params.toList s.vars false W args.toList ds gs before)
    (hfn : ∀ p, DataW.TrodAll enc P W 0 (fun _ => true) true f.params.toList args.toList ds p → s.fn H ds = { results := [.lit (.bool true)], args := ds }) (hres : f.resultTypes = #[tb]) (hu : P.underlying tb = some .bool) (hb : Below W.heap.size W W') :
    s.post enc P f false true false false W args (.bool true) W' := by
  have hW' := hW
  obtain ⟨pa, pv, hA, hV, rfl, hz, hn⟩ := hW
  rw [hv] at hV
  obtain ⟨rfl, rfl⟩ := trodVars_none hV
  have hf := hfn _ hA
  have hlt : ∀ p ∈ pa, p.block < W.heap.size := fun p hp => hW'.lt p (by simpa using hp)
  refine post_of_below hW' (pa := pa) (pv := []) (fun b sp hd => ?_) (fun sp hsp => ?_) (fun sp _ => ?_) rfl hb ?_
  · rw [List.append_nil, hf, hres]
    exact trodAll_cons_mk (shut_bool hu _) trodAll_mk0
  · rw [List.append_nil, hf]
    exact trodAll_stays hl hb hr hA hlt fun p hp => hsp p (by simpa using hp)
  · rw [hv, List.append_nil, hf]
    rfl
  · exact ok_one hres rfl (okWide_bool_mk hu _)
/-- an argument that is a slice of integers -/
theorem open_list {t e : TypeId} {k : IntKind} {W : World} {b0 : Nat} {r : Reach} {v : Value} {d : DataW H} {p : List MemPlace} (ht : P.underlying t = some (.slice e)) (he : P.underlying e = some (.int k)) (hc : P.cellsOf e = 1)
    (hval : Value.okWide P W r b0 t v) (hd : DataW.Trod enc P W 0 (fun _ => true) true t v d p) :
    ∃ (A : Option Addr) (n c : Nat) (l : List Int), v = .slice A n c ∧ Reads W W.heap.size 1 A n (l.map (Value.int k)) ∧ (∀ x ∈ l, (Lit.int k x).wf = true) ∧ (n = 0 ∨ ∃ es sp, d = .slice es sp ∧ n ≤ es.length) ∧ n ≤ maxLen := by
  obtain ⟨A, n, c, rfl⟩ := okWide_slice ht hval
  obtain ⟨fuel, hf⟩ := hd
  rcases open_ints ht he hc hf with ⟨hcs, hx⟩ | ⟨a, len, cap, zs, hcs, _, hl, hm, hz, hx, hcell, hwz⟩
  · simp [Value.cells] at hcs
    obtain ⟨rfl, rfl, rfl⟩ := hcs
    exact ⟨none, 0, 0, [], rfl, Reads.none_, by simp, .inl rfl, Nat.zero_le _⟩
  · simp [Value.cells] at hcs
    obtain ⟨rfl, rfl, rfl⟩ := hcs
    simp only [if_true] at hz
    simp only [Prod.mk.injEq] at hx
    refine ⟨some a, n, c, zs.take n, rfl, ⟨by simp; omega, fun hn => ⟨a, rfl, ?_, fun j u hu => ?_⟩⟩, fun x hx => hwz x (List.mem_of_mem_take hx), .inr ⟨_, _, hx.1, by simp [lits]; omega⟩, Nat.le_trans hl hm⟩
    · have h0 := hcell 0 (by omega)
      rcases Nat.lt_or_ge a.block W.heap.size with h | h
      · exact h
      · exfalso
        unfold World.cell? at h0
        rw [block_of_add, Array.getElem?_eq_none h] at h0
        cases h0
    · rw [List.getElem?_map] at hu
      cases hz2 : (zs.take n)[j]? with
      | none => rw [hz2] at hu; simp at hu
      | some x =>
        rw [hz2] at hu
        simp only [Option.map_some, Option.some.injEq] at hu
        obtain ⟨hj, hxe⟩ := List.getElem?_eq_some_iff.1 hz2
        simp at hj
        rw [hcell j (by omega), ← hu, ← hxe]
        simp [List.getD, show j < zs.length by omega]
end
end Ox
