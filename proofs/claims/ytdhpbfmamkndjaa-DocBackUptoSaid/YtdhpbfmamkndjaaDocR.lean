/- Contracts: At, of doc and of oxbowref12. -/
import Derived.Test.YtdhpbfmamkndjaaDocQ
import Derived.Test.YtdhpbfmamkndjaaDocF
namespace Go.Proofs.Ytdhpbfmamkndjaa.Doc
open Go.RowKit Ox
set_option linter.unusedVariables false
set_option linter.unusedSimpArgs false
/-- an atom's origin and number; none: zeros and false -/
def AtRes (o : Option At) (w : World) (e : Ending) (w' : World) : Prop := Below w.heap.size w w' ∧ match o with
  | some a => e = .returned (.tuple #[.agg #[.int .i64 a.c, .int .i64 a.s], .int .i64 a.n, .bool true])
  | none => e = .returned (.tuple #[.agg #[.int .i64 0, .int .i64 0], .int .i64 0, .bool false])
noncomputable def atOf (l : List Rn) (i : Int) : Option At := open Classical in if Good l ∧ 0 ≤ i then (atoms l)[i.toNat]? else none
theorem at_bad {l : List Rn} {i : Int} (h : ¬ (Good l ∧ 0 ≤ i)) : atOf l i = none := by unfold atOf; rw [if_neg h]
theorem at_good {l : List Rn} {i : Int} (h : Good l) (h0 : 0 ≤ i) : atOf l i = (atoms l)[i.toNat]? := by unfold atOf; rw [if_pos ⟨h, h0⟩]
theorem chk_cases (l : List Rn) : (Good l ∧ chk l = 0) ∨ (¬ Good l ∧ chk l = 120) := by
  rcases Classical.em (Good l) with h | h
  · exact .inl ⟨h, chk_good h⟩
  · exact .inr ⟨h, chk_bad h⟩
theorem atres_none {l : List Rn} {i : Int} {w w' : World} (h : atOf l i = none) (hb : Below w.heap.size w w') : AtRes (atOf l i) w (.returned (.tuple #[.agg #[.int .i64 0, .int .i64 0], .int .i64 0, .bool false])) w' := by
  rw [h]; exact ⟨hb, rfl⟩
theorem atres_some {l : List Rn} {i : Int} {w w' : World} {a : At} (h : atOf l i = some a) (hb : Below w.heap.size w w') : AtRes (atOf l i) w (.returned (.tuple #[.agg #[.int .i64 a.c, .int .i64 a.s], .int .i64 a.n, .bool true])) w' := by
  rw [h]; exact ⟨hb, rfl⟩
/-- the i-th atom lies in the run that it falls into -/
theorem atoms_get {l : List Rn} {k : Nat} {r : Rn} {i i2 : Int} (hx : l[k]? = some r) (h0 : 0 ≤ i2) (h1 : i2 < (ptsL r).length) (he : i2 + (atoms (l.take k)).length = i) : (atoms l)[i.toNat]? = some ⟨r.c, r.s, r.f + i2, (ptsL r).getD i2.toNat 0⟩ := by
  obtain ⟨m, rfl⟩ := Int.eq_ofNat_of_zero_le h0
  have e : atoms l = atoms (l.take k) ++ (atomsR r ++ atoms (l.drop (k + 1))) := by
    conv => lhs; rw [← List.take_append_drop (k + 1) l, atoms_append, atoms_snoc hx, List.append_assoc]
  rw [e, List.getElem?_append_right (by omega), List.getElem?_append_left (by rw [atomsR_length]; omega), show i.toNat - (atoms (l.take k)).length = m by omega]
  unfold atomsR
  rw [List.getElem?_map, List.getElem?_range (by omega)]
  rfl
/-- a result's cell of two numbers, as the walk wants it -/
theorem res_cells {w : World} {N : Nat} {t : TypeId} {u v : Value} (h : Blk w N t #[u, v]) : w.cell? ⟨N, 0, none⟩ = some u ∧ w.cell? ⟨N, 1, none⟩ = some v ∧ w.frozen? ⟨N, 0, none⟩ = false ∧ w.frozen? ⟨N, 1, none⟩ = false :=
  ⟨h.cell 0, h.cell 1, h.frozen 0, h.frozen 1⟩
set_option maxRecDepth 100000 in
set_option maxHeartbeats 4000000 in
theorem at_any (A : Option Addr) (n c B : Nat) (l : List Rn) (i : Int) (w : World) (hr : Reads w B 4 A n (rows l)) (hB : B ≤ w.heap.size) (hn : n ≤ 100000000000) (hz : ∀ r ∈ l, r.t.size ≤ 10000000000000)
    (hi : -9223372036854775808 ≤ i ∧ i ≤ 9223372036854775807) : Calls Try.prog 32 #[.slice A n c, .int .i64 i] w (AtRes (atOf l i) w) := by
  have HL := Lib.hid (rows_len hr)
  have hC := fun w' (h : Below w.heap.size w w') => check_any A n c B l w' (hr.below (h.mono hB)) (Nat.le_trans hB h.size) hn hz
  rcases chk_cases l with ⟨hg, e⟩ | ⟨hg, e⟩
  · rw [e] at hC
    have HC := Lib.hid hC
    clear hC e
    by_cases h0 : 0 ≤ i
    · have hgo := Lib.hid (at_good (l := l) hg h0)
      have hrr := Lib.hid (fun (i : Nat) (r : Rn) (h : l[i]? = some r) => hg.runs i r h)
      have hfw := hg.few
      rw [← atoms_nm, List.length_map] at hfw
      go_enter Try.func32, Try.ntmps32
      go_wp2_with (go_at_call 29; refine (HC.out _ ((Below.refl _ _).alloc (Nat.le_refl _) _)).mono ?_; rintro e w2 ⟨rfl, hb2⟩)
      have kb := (Blk.new w 35 #[.int .i64 0, .int .i64 0]).below hb2 (by simp)
      have hb0 : Below w.heap.size w w2 := ((Below.refl _ _).alloc (Nat.le_refl _) _).trans (hb2.mono (by simp))
      go_loopw [1, 20] (fun i' j wr => ∃ (k : Nat) (i2 : Int), k ≤ n ∧ j = .int .i64 k ∧ i' = .int .i64 i2 ∧ 0 ≤ i2 ∧ i2 ≤ i ∧ Hid (i2 + (atoms (l.take k)).length = i) ∧ Below w.heap.size w wr ∧ Blk wr w.heap.size 35 #[.int .i64 0, .int .i64 0]) (fun _ j _ => n - (intOf j).toNat)
      case atStart => exact ⟨0, i, Nat.zero_le _, rfl, rfl, h0, by omega, by simp [atoms, Hid], hb0, kb⟩
      case round =>
        obtain ⟨k, i2, hk, rfl, rfl, h2, h3, he, hbw, kbr⟩ := hrel
        have hNl := kbr.lt
        by_cases hlt : k < n
        · obtain ⟨ad, p, r, rfl, hp, hbk, hx, p1, p2, p3, p4⟩ := run_at ((hr.more hB).below hbw) hlt
          have hL := fun w => Text.len_any r.t w (hz r (List.mem_of_getElem? hx.out))
          change ∀ w, Calls Try.prog 67 #[.string r.t] w (Text.Num (lenR r) w) at hL
          have hok := hrr.out k r hx.out
          have o1 := hok.len
          have o2 := hok.lo
          have o3 := hok.hi
          have o4 := hok.last
          have HLn := Lib.hid hL
          have hv := okRun_val hok
          have hM := hv.lenR
          have HM := Lib.hid hM
          clear hL hok hM
          generalize hMM : (ptsL r).length = M at HM
          rw [HM.out] at o1 o4 HLn
          go_wp2_with (go_at_call 67; refine (HLn.out _).mono ?_; rintro e w3 ⟨rfl, hb3⟩)
          all_goals
            have hc3 := (Cur.start wr r 37).next hb3
            obtain ⟨hbc, cl, c1, c2, c3, c4⟩ := hc3
            have kb3 := (kbr.alloc (.cells #[.int .i64 r.c, .int .i64 r.s, .int .i64 r.f, .string r.t] 37)).below hb3 (by simp; omega)
            obtain ⟨k0, k1, f0, f1⟩ := res_cells kb3
            have hbb := below_next hbw hbc hbw.size
          · have hlt2 : i2 < (M : Int) := by assumption
            have hat : atOf l i = some ⟨r.c, r.s, r.f + i2, (ptsL r).getD i2.toNat 0⟩ := by
              rw [hgo.out]
              exact atoms_get hx.out h2 (by rw [hMM]; exact hlt2) he.out
            have HA := Lib.hid hat
            clear hat
            have hsum : IntKind.i64.wrap (r.f + i2) = r.f + i2 := IntWalk.i64_in _ (by omega)
            go_region
            all_goals
              go_wp2
              exact bodyPost_ret (v := .tuple #[.agg #[.int .i64 r.c, .int .i64 r.s], .int .i64 (r.f + i2), .bool true]) (by simp [results, Try.results32, go_sem, k0, k1, f0, f1]) rfl (atres_some HA.out ((hbb.drew.setCell (Nat.le_refl _) _).setCell (Nat.le_refl _) _))
          · have hge : (M : Int) ≤ i2 := by assumption
            have he2 : Hid (i2 - (M : Int) + (atoms (l.take (k + 1))).length = i) := by
              have := he.out
              unfold Hid
              rw [atoms_snoc hx.out, List.length_append, atomsR_length, hMM]
              simp only [Int.natCast_add]
              omega
            go_roundw
            case rel => exact ⟨k + 1, _, by omega, by go_num, rfl, by omega, by omega, he2, hbb, kb3⟩
            case measure => simp [intOf]; omega
        · have hkn : l.take k = l := List.take_of_length_le (by rw [HL.out]; omega)
          have hat : atOf l i = none := by
            rw [hgo.out, List.getElem?_eq_none_iff]
            have := he.out
            rw [hkn] at this
            omega
          have HA := Lib.hid hat
          obtain ⟨k0, k1, f0, f1⟩ := res_cells kbr
          clear hat hkn
          go_wp2
          exact bodyPost_ret (v := .tuple #[.agg #[.int .i64 0, .int .i64 0], .int .i64 0, .bool false]) (by simp [results, Try.results32, go_sem, k0, k1, f0, f1]) rfl (atres_none HA.out ((hbw.setCell (Nat.le_refl _) _).setCell (Nat.le_refl _) _))
    · have hno := Lib.hid (at_bad (l := l) (i := i) (fun h => h0 h.2))
      go_enter Try.func32, Try.ntmps32
      go_wp2_with (go_at_call 29; refine (HC.out _ ((Below.refl _ _).alloc (Nat.le_refl _) _)).mono ?_; rintro e w2 ⟨rfl, hb2⟩; have kb := (Blk.new w 35 #[.int .i64 0, .int .i64 0]).below hb2 (by simp); obtain ⟨k0, k1, f0, f1⟩ := res_cells kb)
      exact bodyPost_ret (v := .tuple #[.agg #[.int .i64 0, .int .i64 0], .int .i64 0, .bool false]) (by simp [results, Try.results32, go_sem, k0, k1, f0, f1]) rfl (atres_none hno.out ((((((Below.refl _ _).alloc (Nat.le_refl _) _).trans (hb2.mono (by simp)))).setCell (Nat.le_refl _) _).setCell (Nat.le_refl _) _))
  · rw [e] at hC
    have HC := Lib.hid hC
    have hno := Lib.hid (at_bad (l := l) (i := i) (fun h => hg h.1))
    clear hC e
    go_enter Try.func32, Try.ntmps32
    go_wp2_with (go_at_call 29; refine (HC.out _ ((Below.refl _ _).alloc (Nat.le_refl _) _)).mono ?_; rintro e w2 ⟨rfl, hb2⟩; have kb := (Blk.new w 35 #[.int .i64 0, .int .i64 0]).below hb2 (by simp); obtain ⟨k0, k1, f0, f1⟩ := res_cells kb)
    exact bodyPost_ret (v := .tuple #[.agg #[.int .i64 0, .int .i64 0], .int .i64 0, .bool false]) (by simp [results, Try.results32, go_sem, k0, k1, f0, f1]) rfl (atres_none hno.out ((((((Below.refl _ _).alloc (Nat.le_refl _) _).trans (hb2.mono (by simp)))).setCell (Nat.le_refl _) _).setCell (Nat.le_refl _) _))
theorem good_f {l : List Rn} (h : Good l) : ∀ r ∈ l, -1000000000000000 ≤ r.f ∧ r.f ≤ 1000000000000000 := fun r hm => by
  obtain ⟨i, hi, rfl⟩ := List.getElem_of_mem hm
  have h := h.runs i _ (List.getElem?_eq_getElem hi)
  have h1 := h.lo
  have h2 := h.hi
  omega
theorem good_few {l : List Rn} (h : Good l) : (atoms l).length ≤ 1000 := by have := h.few; rw [← atoms_nm, List.length_map] at this; exact this
set_option maxRecDepth 100000 in
set_option maxHeartbeats 4000000 in
theorem rat_any (A : Option Addr) (n c B : Nat) (l : List Rn) (i : Int) (w : World) (hr : Reads w B 4 A n (rows l)) (hB : B ≤ w.heap.size) (hn : n ≤ 100000000000) (hz : ∀ r ∈ l, r.t.size ≤ 10000000000000)
    (hi : -9223372036854775808 ≤ i ∧ i ≤ 9223372036854775807) : Calls Try.prog 33 #[.slice A n c, .int .i64 i] w (AtRes (atOf l i) w) := by
  have hC := fun w' (h : Below w.heap.size w w') => rcheck_any A n c B l w' (hr.below (h.mono hB)) (Nat.le_trans hB h.size) hn hz
  rcases chk_cases l with ⟨hg, e⟩ | ⟨hg, e⟩
  · rw [e] at hC
    have HC := Lib.hid hC
    have hA := fun w' (h : Below w.heap.size w w') => atoms_any A n c B l w' (hr.below (h.mono hB)) (Nat.le_trans hB h.size) hn hz (good_f hg) (Nat.le_trans (good_few hg) (by omega))
    have HA := Lib.hid hA
    have hfw := good_few hg
    clear hC hA e
    by_cases h0 : 0 ≤ i
    · have hgo := at_good (l := l) hg h0
      obtain ⟨k, rfl⟩ := Int.eq_ofNat_of_zero_le h0
      have HGO := Lib.hid hgo
      clear hgo h0
      by_cases hlt : k < (atoms l).length
      · go_enter Try.func33, Try.ntmps33
        go_wp2_with (first
          | (go_at_call 34; refine (HC.out _ ((Below.refl _ _).alloc (Nat.le_refl _) _)).mono ?_; rintro e w2 ⟨rfl, hb2⟩; have hbw := ((Below.refl w.heap.size w).alloc (Nat.le_refl _) (.cells #[.int .i64 0, .int .i64 0] 35)).trans (hb2.mono (by simp)); have kb := (Blk.new w 35 #[.int .i64 0, .int .i64 0]).below hb2 (by simp); obtain ⟨k0, k1, f0, f1⟩ := res_cells kb)
          | (go_at_call 43; refine (HA.out _ hbw).mono ?_; rintro e w3 ⟨v, rfl, ho, hb3⟩; obtain ⟨Aa, ca, rfl, hnc, hcm, hrd2, _⟩ := own_slice ho; have kb3 := kb.below hb3 kb.lt; obtain ⟨j0, j1, g0, g1⟩ := res_cells kb3))
        obtain ⟨ad2, p, x, rfl, hp, hbk, hx, p1, p2, p3, p4⟩ := atom_at hrd2 hlt
        have hat := Lib.hid (HGO.out.trans hx.out)
        have hbb := below_next hbw hb3 hbw.size
        clear hrd2 ho
        go_region
        all_goals
          go_wp2
          exact bodyPost_ret (v := .tuple #[.agg #[.int .i64 x.c, .int .i64 x.s], .int .i64 x.n, .bool true]) (by simp [results, Try.results33, go_sem, j0, j1, g0, g1]) rfl (atres_some hat.out ((hbb.drew.setCell (Nat.le_refl _) _).setCell (Nat.le_refl _) _))
      · have hno := Lib.hid (HGO.out.trans (List.getElem?_eq_none_iff.2 (show (atoms l).length ≤ ((k : Int)).toNat by omega)))
        go_enter Try.func33, Try.ntmps33
        go_wp2_with (first
          | (go_at_call 34; refine (HC.out _ ((Below.refl _ _).alloc (Nat.le_refl _) _)).mono ?_; rintro e w2 ⟨rfl, hb2⟩; have hbw := ((Below.refl w.heap.size w).alloc (Nat.le_refl _) (.cells #[.int .i64 0, .int .i64 0] 35)).trans (hb2.mono (by simp)); have kb := (Blk.new w 35 #[.int .i64 0, .int .i64 0]).below hb2 (by simp); obtain ⟨k0, k1, f0, f1⟩ := res_cells kb)
          | (go_at_call 43; refine (HA.out _ hbw).mono ?_; rintro e w3 ⟨v, rfl, ho, hb3⟩; obtain ⟨Aa, ca, rfl, hnc, hcm, hrd2, _⟩ := own_slice ho; have kb3 := kb.below hb3 kb.lt; obtain ⟨j0, j1, g0, g1⟩ := res_cells kb3))
        have hbb := below_next hbw hb3 hbw.size
        exact bodyPost_ret (v := .tuple #[.agg #[.int .i64 0, .int .i64 0], .int .i64 0, .bool false]) (by simp [results, Try.results33, go_sem, j0, j1, g0, g1]) rfl (atres_none hno.out ((hbb.setCell (Nat.le_refl _) _).setCell (Nat.le_refl _) _))
    · have hno := Lib.hid (at_bad (l := l) (i := i) (fun h => h0 h.2))
      go_enter Try.func33, Try.ntmps33
      go_wp2_with (first
        | (go_at_call 34; refine (HC.out _ ((Below.refl _ _).alloc (Nat.le_refl _) _)).mono ?_; rintro e w2 ⟨rfl, hb2⟩; have hbw := ((Below.refl w.heap.size w).alloc (Nat.le_refl _) (.cells #[.int .i64 0, .int .i64 0] 35)).trans (hb2.mono (by simp)); have kb := (Blk.new w 35 #[.int .i64 0, .int .i64 0]).below hb2 (by simp); obtain ⟨k0, k1, f0, f1⟩ := res_cells kb)
        | (go_at_call 43; refine (HA.out _ hbw).mono ?_; rintro e w3 ⟨v, rfl, ho, hb3⟩; obtain ⟨Aa, ca, rfl, hnc, hcm, hrd2, _⟩ := own_slice ho; have kb3 := kb.below hb3 kb.lt; obtain ⟨j0, j1, g0, g1⟩ := res_cells kb3))
      have hbb := below_next hbw hb3 hbw.size
      exact bodyPost_ret (v := .tuple #[.agg #[.int .i64 0, .int .i64 0], .int .i64 0, .bool false]) (by simp [results, Try.results33, go_sem, j0, j1, g0, g1]) rfl (atres_none hno.out ((hbb.setCell (Nat.le_refl _) _).setCell (Nat.le_refl _) _))
  · rw [e] at hC
    have HC := Lib.hid hC
    have hno := Lib.hid (at_bad (l := l) (i := i) (fun h => hg h.1))
    clear hC e
    go_enter Try.func33, Try.ntmps33
    go_wp2_with (go_at_call 34; refine (HC.out _ ((Below.refl _ _).alloc (Nat.le_refl _) _)).mono ?_; rintro e w2 ⟨rfl, hb2⟩; have hbw := ((Below.refl w.heap.size w).alloc (Nat.le_refl _) (.cells #[.int .i64 0, .int .i64 0] 35)).trans (hb2.mono (by simp)); have kb := (Blk.new w 35 #[.int .i64 0, .int .i64 0]).below hb2 (by simp); obtain ⟨k0, k1, f0, f1⟩ := res_cells kb)
    exact bodyPost_ret (v := .tuple #[.agg #[.int .i64 0, .int .i64 0], .int .i64 0, .bool false]) (by simp [results, Try.results33, go_sem, k0, k1, f0, f1]) rfl (atres_none hno.out ((hbw.setCell (Nat.le_refl _) _).setCell (Nat.le_refl _) _))
end Go.Proofs.Ytdhpbfmamkndjaa.Doc
