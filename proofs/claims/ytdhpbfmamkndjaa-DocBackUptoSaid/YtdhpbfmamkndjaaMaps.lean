/- 'm[k]++' on a map of the call's own, as the region that draws its order does it. Over any program. -/
import Derived.Test.YtdhpbfmamkndjaaBase
import Derived.Maps.OwnOps
import Derived.Maps.Views
import Derived.WideKeyEntry
import Derived.DeepKeys4
namespace Ox
open Go Go.RowKit Go.ChangeMaps Go.MapKept Go.Maps
open Go.WideElems (Fit rd rg pl rd_val elemAt set_self findIdx_born findIdx_arr modify_last)
open Go.WideMaps (KeyLaw)
set_option linter.unusedVariables false
set_option linter.unusedSimpArgs false
section
variable {H : Type} {P : Program} {w : World} {t k e : TypeId} {R : Value → Option (DataW H × List MemPlace)} {b n : Nat} {es : Array MapEntry} {clock : Nat} {D : DataW H}

theorem setBlock_twice (w : World) (b : Nat) (o o' : Obj) : setBlock (setBlock w b o) b o' = setBlock w b o' := by
  simp [setBlock]
/-- the entry is made ready; what 'lookup' sees does not turn -/
theorem entry_at (K : KeyLaw P k) (ht : P.underlying t = some (.map k e)) {z : Value} (hz : ∀ u : World, (zeroValue e).run P u = .ok z u) (hb : w.heap[b]? = some (.map es clock)) (F : Fit P k R es clock)
    {key : Value} {kl : Lit} (hkey : keyOf P k key = some kl) :
    ∃ (v0 : Value) (st : Nat) (es1 : Array MapEntry) (clock1 : Nat), (Instr.mapEntry t (.map (some b)) key).run P w = .ok (.tuple #[v0, goInt st]) (setBlock w b (.map es1 clock1)) ∧
      ((es1 = es ∧ clock1 = clock) ∨ ((∀ x ∈ es.toList, x.key ≠ key) ∧ (Instr.mapUpdate t (.map (some b)) key z).run P w = .ok () (setBlock w b (.map es1 clock1)))) ∧
      ∀ (w2 : World) (val : Value), w2.heap[b]? = some (.map es1 clock1) → ∃ es' clock', (Instr.entryStore t (.map (some b)) (goInt st) val).run P w2 = .ok () (setBlock w2 b (.map es' clock')) ∧
        (Instr.mapUpdate t (.map (some b)) key val).run P w = .ok () (setBlock w b (.map es' clock')) := by
  obtain ⟨v0, st, es1, clock1, h1, h2, h3⟩ := Go.WideElems.entry_then_store K ht hz hb F hkey
  refine ⟨v0, st, es1, clock1, h1, ?_, h3⟩
  obtain ⟨s1, s2, _⟩ := F.stamped
  rcases K.find w hkey es.toList F.keys with ⟨g1, g2⟩ | ⟨j, e0, g1, g2, g3⟩
  · refine .inr ⟨g2, ?_⟩
    have hm : (Instr.mapEntry t (.map (some b)) key).run P w = .ok (.tuple #[z, goInt clock]) (setBlock w b (.map (es.push ⟨key, z, clock⟩) (clock + 1))) := by
      simp [Instr.mapEntry, run_underlying ht, MapKept.run_getObj_map hb, K.check w false hkey, g1, hz, MapKept.run_setObj_map _ hb, Result.andThen, setBlock]
    rw [hm] at h1
    injection h1 with _ h1
    rw [← h1]
    simp [Instr.mapUpdate, run_underlying ht, MapKept.run_getObj_map hb, K.check w false hkey, g1, MapKept.run_setObj_map _ hb, Result.andThen, setBlock]
  · have hj : es[j]? = some e0 := by simpa using g2
    have hsame : es.modify j (fun e => { e with key := key }) = es := by
      apply Array.ext'
      rw [Array.toList_modify, modify_eq_set _ _ _ _ g2]
      have : ({ e0 with key := key } : MapEntry) = e0 := by rw [← g3]
      rw [this]
      exact set_self _ _ _ g2
    have hm : (Instr.mapEntry t (.map (some b)) key).run P w = .ok (.tuple #[e0.val, goInt e0.born]) (setBlock w b (.map es clock)) := by
      simp [Instr.mapEntry, run_underlying ht, MapKept.run_getObj_map hb, K.check w false hkey, g1, hj, g3, K.stays w hkey, hsame, MapKept.run_setObj_map _ hb, Result.andThen, setBlock]
    rw [hm] at h1
    injection h1 with _ h1
    have h4 := heap_setBlock_same hb (.map es clock)
    rw [h1, heap_setBlock_same hb] at h4
    injection h4 with h4
    injection h4 with h4 h5
    exact .inl ⟨h4, h5⟩
/-- 'm[k]++', its parts: the look-up ahead of the entry and behind it, and the store -/
theorem map_bump {q : IntKind} (K : KeyLaw P k) (ht : P.underlying t = some (.map k e)) (he : P.underlying e = some (.int q)) (hz : ∀ u : World, (zeroValue e).run P u = .ok (.int q 0) u)
    (h : w.ownsMap P k (plainElem (H := H) P e) b n D) (hn : n < maxLen) {key : Value} {kl : Lit} (hkey : keyOf P k key = some kl) :
    ∃ (c : Int) (v0 : Value) (st : Nat) (w2 : World), D.atKey kl (.lit (.int q 0)) = .lit (.int q c) ∧ (Lit.int q c).wf = true ∧
      (Instr.lookup t (.map (some b)) key false).run P w = .ok (.int q c) w ∧ (Instr.mapEntry t (.map (some b)) key).run P w = .ok (.tuple #[v0, goInt st]) w2 ∧
      (Instr.lookup t (.map (some b)) key false).run P w2 = .ok (.int q c) w2 ∧ w.grownBy w2 (some b) ∧
      ∀ c', (Lit.int q c').wf = true → ∃ w3, (Instr.entryStore t (.map (some b)) (goInt st) (.int q c')).run P w2 = .ok () w3 ∧ w3.ownsMap P k (plainElem P e) b (n + 1) (D.put kl (.lit (.int q c'))) ∧ w.grownBy w3 (some b) := by
  have hw0 : (Lit.int q 0).wf = true := by cases q <;> decide
  obtain ⟨c, hl, hat, hwc⟩ := h.lookup_int (Keyed.of_law K) ht he (hz w) hkey
  have h' := h
  obtain ⟨es, clock, hb, F, hs, rfl⟩ := h
  obtain ⟨v0, st, es1, clock1, hm, hcase, hstore⟩ := entry_at K ht hz hb F hkey
  have hg : ∀ o, w.grownBy (setBlock w b o) (some b) := fun o => ⟨rfl, rfl, rfl, by simp [setBlock], fun i _ hi => heap_setBlock_other hb _ (fun e => hi (by rw [e]))⟩
  refine ⟨c, v0, st, setBlock w b (.map es1 clock1), hat, hwc, hl, hm, ?_, hg _, fun c' hc' => ?_⟩
  · rcases hcase with ⟨rfl, rfl⟩ | ⟨hne, hu⟩
    · have h2 : World.ownsMap (H := H) (setBlock w b (.map es1 clock1)) P k (plainElem P e) b n (.map ((es1.toList.map (rg P k (plainElem P e))).foldr DataW.insert [])) := ⟨es1, clock1, heap_setBlock_same hb _, F, hs, rfl⟩
      obtain ⟨c2, hl2, hat2, _⟩ := h2.lookup_int (Keyed.of_law K) ht he (hz _) hkey
      rw [hat] at hat2
      simp only [DataW.lit.injEq, Lit.int.injEq, true_and] at hat2
      rw [hl2, hat2]
    · obtain ⟨w', hr, ho, _⟩ := h'.update (Keyed.of_law K) ht hn hkey (plainElem_int he hw0)
      have hr' := (Result.ok.inj (hu.symm.trans hr)).2
      rw [← hr'] at ho
      obtain ⟨c2, hl2, hat2, _⟩ := ho.lookup_int (Keyed.of_law K) ht he (hz _) hkey
      rw [atKey_put_same ⟨_, rfl⟩ ((Keyed.of_law K).key hkey)] at hat2
      simp only [DataW.lit.injEq, Lit.int.injEq, true_and] at hat2
      rcases Maps.fit_look false (Keyed.of_law K) ht (hz w) hb F hkey with ⟨hrun, _, _⟩ | ⟨e0, y, hmem, hk0, _⟩
      · rw [hl] at hrun
        simp at hrun
        rw [hl2, ← hat2, hrun]
      · exact absurd hk0 (hne e0 hmem)
  · obtain ⟨es', clock', r1, r2⟩ := hstore (setBlock w b (.map es1 clock1)) (.int q c') (heap_setBlock_same hb _)
    obtain ⟨w', hr, ho, _⟩ := h'.update (Keyed.of_law K) ht hn hkey (plainElem_int he hc')
    have hr' := (Result.ok.inj (r2.symm.trans hr)).2
    rw [← hr'] at ho
    rw [setBlock_twice] at r1
    exact ⟨_, r1, ho, hg _⟩
end
end Ox
