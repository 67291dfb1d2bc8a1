/- Contract: doc.Apply. -/
import Derived.Test.YtdhpbfmamkndjaaDocW
namespace Go.Proofs.Ytdhpbfmamkndjaa.Doc
open Go.RowKit Ox
set_option linter.unusedVariables false
set_option linter.unusedSimpArgs false
theorem bytes_pts : ∀ {l : List Rn}, (∀ r ∈ l, Val r) → pts (bytesOf l) = some (l.flatMap ptsL) ∧ (l.flatMap ptsL).length = (atoms l).length
  | [], _ => ⟨rfl, rfl⟩
  | r :: l, h => by
    obtain ⟨h1, h2⟩ := bytes_pts (l := l) fun x hx => h x (by simp [hx])
    have hv := (h r (by simp)).ptsL.1
    have e : bytesOf (r :: l) = r.t.data.toList ++ bytesOf l := by simp [bytesOf]
    refine ⟨by rw [e, pts_cat hv h1]; simp, ?_⟩
    rw [atoms_cons, List.length_append, atomsR_length, ← h2]
    simp
theorem good_len {l : List Rn} (h : Good l) : Text.lenOf (bytesOf l) = (atoms l).length := by
  obtain ⟨h1, h2⟩ := bytes_pts h.val
  unfold Text.lenOf
  rw [h1, ← h2]
theorem org_cells {w : World} {N : Nat} {t : TypeId} {c s : Int} (h : Blk w N t #[.int .i64 c, .int .i64 s]) : w.cell? ⟨N, 0, none⟩ = some (.int .i64 c) ∧ w.cell? ⟨N, 1, none⟩ = some (.int .i64 s) := ⟨h.cell 0, h.cell 1⟩
theorem opn_cells {w : World} {N : Nat} {t : TypeId} {x : Opn} (h : Blk w N t #[.int .i64 x.k, .int .i64 x.n, .string x.t]) : w.cell? ⟨N, 0, none⟩ = some (.int .i64 x.k) ∧ w.cell? ⟨N, 1, none⟩ = some (.int .i64 x.n) ∧ w.cell? ⟨N, 2, none⟩ = some (.string x.t) := ⟨h.cell 0, h.cell 1, h.cell 2⟩
structure ApRel (l : List Rn) (d : List Opn) (oc os : Int) (w : World) (B br k : Nat) (v : Value) (fr : Nat) (wr : World) : Prop where
  ex : ∃ A m c R, Left l R (stOf (atoms l) oc os (d.take k)).2.1 ∧ Rdr wr br A m c R ∧ (∀ ad, A = some ad → v.ownBlock ≠ some ad.block)
  own : OwnR wr B v (runsOf (stOf (atoms l) oc os (d.take k)).1)
  frq : fr = (stOf (atoms l) oc os (d.take k)).2.2
  below : Below B w wr
set_option maxRecDepth 100000 in
set_option maxHeartbeats 8000000 in
theorem apply_any (A : Option Addr) (n c B : Nat) (l : List Rn) (Ad : Option Addr) (nd cd Bd : Nat) (d : List Opn) (oc os : Int) (w : World) (hr : Reads w B 4 A n (rows l)) (hB : B ≤ w.heap.size) (hn : n ≤ 100000000000) (hz : (bytesOf l).length ≤ 10000000000000) (hzr : ∀ r ∈ l, r.t.size ≤ 10000000000000) (hnc : n ≤ c) (hA : ∀ ad, A = some ad → ad.block < w.heap.size)
    (hd : Reads w Bd 3 Ad nd (opRows d)) (hBd : Bd ≤ w.heap.size) (hnd : nd ≤ 100000000000) (hzd : ∀ x ∈ d, x.t.size ≤ 10000000000) :
    Calls Try.prog 40 #[.slice A n c, .slice Ad nd cd, .agg #[.int .i64 oc, .int .i64 os]] w (ApRes (applyOf l d oc os) w) := by
  have HL := Lib.hid (rows_len hr)
  have HD := Lib.hid (opRows_len hd)
  have hC := fun w' (h : Below w.heap.size w w') => check_any A n c B l w' (hr.below (h.mono hB)) (Nat.le_trans hB h.size) hn hzr
  have hBa := fun w' (h : Below w.heap.size w w') => base_any Ad nd cd Bd d w' (hd.below (h.mono hBd)) (Nat.le_trans hBd h.size) hnd hzd
  have hLe := fun w' (h : Below w.heap.size w w') => len_any A n c B l w' (hr.below (h.mono hB)) (Nat.le_trans hB h.size) hn hz
  have hOr := fun w' => isOrigin_any oc os w'
  have hb0 := (Below.refl w.heap.size w).alloc (Nat.le_refl _) (.cells #[.int .i64 oc, .int .i64 os] 35)
  rcases chk_cases l with ⟨hg, e⟩ | ⟨hg, e⟩
  · rw [e] at hC
    have HC := Lib.hid hC
    clear hC e
    rw [good_len hg] at hLe
    have HLe := Lib.hid hLe
    clear hLe
    rcases chk9_cases d with ⟨e, hb⟩ | ⟨e, hb⟩ | ⟨e, hl3, ho, hs1, hs2, hb⟩
    · rw [hb] at hBa
      have HBa := Lib.hid hBa
      have hres := Lib.hid (show applyOf l d oc os = (none, 90) by rw [ap_2 hg (by rw [e]; decide), e])
      clear hBa hb e
      go_enter Try.func40, Try.ntmps40
      go_wp2_with (first
        | (go_at_call 29; refine (HC.out _ hb0).mono ?_; rintro e w2 ⟨rfl, hb2⟩; have hbb := hb0.trans (hb2.mono (by simp)))
        | (go_at_call 72; refine (HBa.out _ hbb).mono ?_; rintro e w3 ⟨rfl, hb3⟩; have hbb3 := below_next hbb hb3 hbb.size))
      go_ret2
      exact ap_none hres.out hbb3
    · rw [hb] at hBa
      have HBa := Lib.hid hBa
      have hres := Lib.hid (show applyOf l d oc os = (none, 91) by rw [ap_2 hg (by rw [e]; decide), e])
      clear hBa hb e
      go_enter Try.func40, Try.ntmps40
      go_wp2_with (first
        | (go_at_call 29; refine (HC.out _ hb0).mono ?_; rintro e w2 ⟨rfl, hb2⟩; have hbb := hb0.trans (hb2.mono (by simp)))
        | (go_at_call 72; refine (HBa.out _ hbb).mono ?_; rintro e w3 ⟨rfl, hb3⟩; have hbb3 := below_next hbb hb3 hbb.size))
      go_ret2
      exact ap_none hres.out hbb3
    · rw [hb] at hBa
      have hnn : ∀ y ∈ d, 0 ≤ opB y := fun y hy => by obtain ⟨h1, h2⟩ := opB_n (ho y hy); omega
      have hs0 := sumOf_nonneg opB d hnn
      have hal := good_few hg
      have HE := Lib.hid e
      have HO := Lib.hid ho
      clear e hb hnn ho
      by_cases hsum : sumOf opB d = ((atoms l).length : Int)
      · rw [hsum] at hBa
        have HBa := Lib.hid hBa
        have HSUM := Lib.hid hsum
        have hT : Hid (sumOf opT d ≤ 1000) := hs2
        clear hBa hsum hs0 hs1 hs2
        cases horg : orgB oc os with
        | false =>
          rw [horg] at hOr
          have HOr := Lib.hid hOr
          have hres := Lib.hid (ap_4 hg HE.out HSUM.out horg)
          clear hOr horg
          generalize (atoms l).length = T at *
          go_enter Try.func40, Try.ntmps40
          go_wp2_with (first
          | (go_at_call 29; refine (HC.out _ hb0).mono ?_; rintro e w2 ⟨rfl, hb2⟩; have hbb := hb0.trans (hb2.mono (by simp)))
          | (go_at_call 72; refine (HBa.out _ hbb).mono ?_; rintro e w3 ⟨rfl, hb3⟩; have hbb3 := below_next hbb hb3 hbb.size)
          | (go_at_call 31; refine (HLe.out _ hbb3).mono ?_; rintro e w4 ⟨rfl, hb4⟩; have hbb4 := below_next hbb3 hb4 hbb3.size; have kb4 := (((Blk.new w 35 #[.int .i64 oc, .int .i64 os]).below hb2 (by simp)).below hb3 (by have := hb2.size; simp at this; omega)).below hb4 (by have := hb2.size; have := hb3.size; simp at *; omega); obtain ⟨o1, o2⟩ := org_cells kb4)
          | (go_at_call 68; refine (HOr.out _).mono ?_; rintro e w5 ⟨rfl, hb5⟩; have hbb5 := below_next hbb4 hb5 hbb4.size))
          go_ret2
          exact ap_none hres.out hbb5
        | true =>
          rw [horg] at hOr
          have HOr := Lib.hid hOr
          have HORG := Lib.hid horg
          clear hOr horg
          generalize hTT : (atoms l).length = T at HBa HLe hal
          have HTT := Lib.hid hTT
          clear hTT
          go_enter Try.func40, Try.ntmps40
          go_wp2_with (first
          | (go_at_call 29; refine (HC.out _ hb0).mono ?_; rintro e w2 ⟨rfl, hb2⟩; have hbb := hb0.trans (hb2.mono (by simp)))
          | (go_at_call 72; refine (HBa.out _ hbb).mono ?_; rintro e w3 ⟨rfl, hb3⟩; have hbb3 := below_next hbb hb3 hbb.size)
          | (go_at_call 31; refine (HLe.out _ hbb3).mono ?_; rintro e w4 ⟨rfl, hb4⟩; have hbb4 := below_next hbb3 hb4 hbb3.size; have kb4 := (((Blk.new w 35 #[.int .i64 oc, .int .i64 os]).below hb2 (by simp)).below hb3 (by have := hb2.size; simp at this; omega)).below hb4 (by have := hb2.size; have := hb3.size; simp at *; omega); obtain ⟨o1, o2⟩ := org_cells kb4)
          | (go_at_call 68; refine (HOr.out _).mono ?_; rintro e w5 ⟨rfl, hb5⟩; have hbb5 := below_next hbb4 hb5 hbb4.size; have kb5 := kb4.below hb5 kb4.lt))
          have hB1 := Lib.hid (show Below w.heap.size w w5 from hbb5)
          clear hbb hbb3 hbb4 hb2 hb3 hb4 hb5 o1 o2 kb4 HC HBa HLe HOr
          go_loopw [43] (fun i wr => ∃ k : Nat, k ≤ n ∧ i = .int .i64 k ∧ Below w.heap.size w wr ∧ Blk wr w.heap.size 35 #[.int .i64 oc, .int .i64 os] ∧ Hid (∀ (i : Nat) (r : Rn), i < k → l[i]? = some r → ¬ (r.c = oc ∧ r.s = os))) (fun i _ => n - (intOf i).toNat)
          case atStart => exact ⟨0, Nat.zero_le _, rfl, hB1.out, kb5, fun i r h _ => by omega⟩
          case round =>
            obtain ⟨wl, hwl⟩ : ∃ wl, wl = wr := ⟨_, rfl⟩
            subst hwl
            obtain ⟨k, hk, rfl, hbw, kbo, hno⟩ := hrel
            have hlo := kbo.lt
            by_cases hlt : k < n
            · obtain ⟨ad, p, r, rfl, hp, hbk, hx, p1, p2, p3, p4⟩ := run_at ((hr.more hB).below hbw) hlt
              obtain ⟨o1, o2⟩ := org_cells kbo
              by_cases h1 : r.c = oc
              · by_cases h2 : r.s = os
                · have hres := Lib.hid (ap_5 hg HE.out HSUM.out HORG.out ⟨r, List.mem_of_getElem? hx.out, h1, h2⟩)
                  rw [h1] at p1
                  rw [h2] at p2
                  clear h1 h2
                  go_wp2
                  go_ret2
                  exact ap_none hres.out (hbw.alloc (by omega) _)
                · have hno2 : Hid (∀ (i : Nat) (r : Rn), i < k + 1 → l[i]? = some r → ¬ (r.c = oc ∧ r.s = os)) := fun i r' hi h3 => by
                    rcases Nat.lt_or_ge i k with h4 | h4
                    · exact hno.out i r' h4 h3
                    · obtain rfl : i = k := by omega
                      rw [hx.out] at h3
                      cases h3
                      exact fun g => h2 g.2
                  rw [h1] at p1
                  clear h1
                  go_wp2
                  go_roundw
                  case rel => exact ⟨k + 1, by omega, by go_num, hbw.alloc (by omega) _, kbo.alloc _, hno2⟩
                  case measure => simp [intOf]; omega
              · have hno2 : Hid (∀ (i : Nat) (r : Rn), i < k + 1 → l[i]? = some r → ¬ (r.c = oc ∧ r.s = os)) := fun i r' hi h3 => by
                  rcases Nat.lt_or_ge i k with h4 | h4
                  · exact hno.out i r' h4 h3
                  · obtain rfl : i = k := by omega
                    rw [hx.out] at h3
                    cases h3
                    exact fun g => h1 g.1
                go_wp2
                go_roundw
                case rel => exact ⟨k + 1, by omega, by go_num, hbw.alloc (by omega) _, kbo.alloc _, hno2⟩
                case measure => simp [intOf]; omega
            · have hnot : ¬ HasO l oc os := by
                rintro ⟨r, hm, h1⟩
                obtain ⟨i, hi, rfl⟩ := List.getElem_of_mem hm
                exact hno.out i _ (by have := HL.out; omega) (List.getElem?_eq_getElem hi) h1
              have hres := Lib.hid (ap_6 hg HE.out HSUM.out HORG.out hnot)
              have hst0 : ApRel l d oc os (wl.alloc (.cells #[.slice A n c] 112)) (w.heap.size + 1) wl.heap.size 0 (.slice none 0 0) 0 (wl.alloc (.cells #[.slice A n c] 112)) :=
                ⟨⟨A, n, c, l, ⟨hg.val, rfl⟩, ⟨Blk.new wl _ _, ((hr.more hB).below hbw |>.alloc (by omega) _).more (by simp; omega), fun ad e => by have := hA ad e; omega, hnc, fun ad e => by have := hA ad e; simp; omega⟩, fun ad _ => by simp [Value.ownBlock]⟩, World.ownsRow_nil _ _ _ _, rfl, Below.refl _ _⟩
              have HST := Lib.hid hst0
              have kbo2 := kbo.alloc (.cells #[.slice A n c] 112)
              have hdr := (hd.more hBd).below hbw
              have hdr2 := Lib.hid (hdr.alloc (by omega) (.cells #[.slice A n c] 112))
              have hbw2 := hbw.alloc (by omega) (.cells #[.slice A n c] 112)
              clear hnot hst0 hno hdr hr hd
              go_wp2
              have hbr : w.heap.size + 1 ≤ wl.heap.size := hlo
              generalize wl.alloc (.cells #[.slice A n c] 112) = wm at HST kbo2 hdr2 hbw2 ⊢
              generalize wl.heap.size = br at HST hbr ⊢
              have hfitl := Lib.hid (good_fit hg)
              have hok := Lib.hid (fun k hk => st_ok (atoms l) oc os d HO.out k hk)
              have hfs := Lib.hid (fun k hk => stOf_fit (atoms l) oc os d (good_fit hg) HO.out hT.out k hk)
              have hbm := kbo2.lt
              have HKO := Lib.hid kbo2
              clear kbo2 kbo
              go_loopw [13, 15, 57] (fun v f i wr => ∃ (k : Nat) (fr : Nat), k ≤ nd ∧ i = .int .i64 k ∧ f = .int .i64 fr ∧ ApRel l d oc os wm (w.heap.size + 1) br k v fr wr) (fun _ _ i _ => nd - (intOf i).toNat)
              case atStart => exact ⟨0, 0, Nat.zero_le _, rfl, rfl, HST.out⟩
              case round =>
                obtain ⟨wo, hwo⟩ : ∃ wo, wo = wr := ⟨_, rfl⟩
                subst hwo
                obtain ⟨k2, fr, hk2, rfl, rfl, hrel2⟩ := hrel
                obtain ⟨⟨A2, m2, c2, R, hLf, hRd, hap⟩, how, hfr, hbl⟩ := hrel2
                have hbl0 : Below w.heap.size w wo := hbw2.trans (hbl.mono (by omega))
                have hws := hbl.size
                have hwo : w.heap.size < wo.heap.size := by omega
                by_cases hlt2 : k2 < nd
                · obtain ⟨ad, p, x, rfl, hp, hbk, hx, p1, p2, p3⟩ := op_at (hdr2.out.below (hbl.mono (by omega))) hlt2
                  have hx0 := HO.out x (List.mem_of_getElem? hx.out)
                  have hxz := hzd x (List.mem_of_getElem? hx.out)
                  have hkok := hok.out k2 (by rw [HD.out]; exact hk2)
                  have hkfs := hfs.out k2 (by rw [HD.out]; exact hk2)
                  have hsn := st_snoc (atoms l) oc os hx.out
                  have hkT : sumOf opT (d.take k2) ≤ 1000 := by have := sumOf_take_le opT d k2 (fun y _ => opT_nonneg y); have := hT.out; omega
                  have hk1T : sumOf opT (d.take (k2 + 1)) ≤ 1000 := by have := sumOf_take_le opT d (k2 + 1) (fun y _ => opT_nonneg y); have := hT.out; omega
                  rw [sumOf_snoc _ hx.out] at hk1T
                  have hkB : sumOf opB (d.take (k2 + 1)) ≤ T := by
                    have := sumOf_take_le opB d (k2 + 1) (fun y hy => by obtain ⟨h1, h2⟩ := opB_n (HO.out y hy); omega)
                    have := HSUM.out
                    have := HTT.out
                    omega
                  rw [sumOf_snoc _ hx.out] at hkB
                  obtain ⟨hz1, hz2, hz3⟩ := hkok
                  generalize stOf (atoms l) oc os (d.take k2) = S at *
                  subst hfr
                  obtain ⟨o1, o2⟩ := org_cells (HKO.out.below hbl (by omega))
                  have hb1 := (Below.refl wo.heap.size wo).alloc (Nat.le_refl _) (.cells #[.int .i64 x.k, .int .i64 x.n, .string x.t] 57)
                  have kx := Blk.new wo 57 #[.int .i64 x.k, .int .i64 x.n, .string x.t]
                  by_cases h2 : kOf x = 2
                  · have hkk : x.k = 2 ∧ 0 < lenO x := by
                      rcases kOf_cases x with ⟨g, _⟩ | ⟨g, _⟩ | ⟨_, g1, _, g3⟩ | g
                      · rw [g] at h2; cases h2
                      · rw [g] at h2; cases h2
                      · exact ⟨g1, g3⟩
                      · rw [g] at h2; cases h2
                    have hiv := ins_val (oc := oc) (os := os) (fr := S.2.2) h2
                    have hil := ins_len (oc := oc) (os := os) (fr := S.2.2) h2
                    rw [opT_ins h2] at hk1T
                    have hadd : ∀ w3, Below wo.heap.size wo w3 → Calls Try.prog 73 #[u13, (insR oc os S.2.2 x).val] w3 (AddRes w3 (w.heap.size + 1) u13 (addD (runsOf S.1) (insR oc os S.2.2 x))) := fun w3 hb => add_any u13 _ _ _ w3 (own_below how hb) (by have := hb.size; omega) (Nat.le_trans (runs_len_le _) (by omega)) (hkfs.runs (by omega)) (Nat.le_trans hxz (by omega))
                    rw [addD_runs hkfs.pt hiv] at hadd
                    change ∀ w3, Below wo.heap.size wo w3 → Calls Try.prog 73 #[u13, .agg #[.int .i64 oc, .int .i64 os, .int .i64 (S.2.2 : Int), .string x.t]] w3 _ at hadd
                    have HADD := Lib.hid hadd
                    have hLn := fun w => Text.len_any x.t w (Nat.le_trans hxz (by omega))
                    change ∀ w, Calls Try.prog 67 #[.string x.t] w (Text.Num (lenO x) w) at hLn
                    rw [hil] at hLn hkk hk1T
                    have HLn := Lib.hid hLn
                    have hst : ∀ w4 v4 w5, OwnR w4 (w.heap.size + 1) v4 (runsOf (S.1 ++ atomsR (insR oc os S.2.2 x))) → Grow (wo.alloc (.cells #[.int .i64 x.k, .int .i64 x.n, .string x.t] 57)) u13 w4 v4 → Below w4.heap.size w4 w5 → ApRel l d oc os wm (w.heap.size + 1) br (k2 + 1) v4 (S.2.2 + (ptsL (insR oc os S.2.2 x)).length) w5 := fun w4 v4 w5 ho4 hg4 hb5 => by
                      have how1 := own_below how hb1
                      have hR1 := (hRd.below hb1).grown how1 hg4.1 hap
                      refine ⟨⟨A2, m2, c2, R, ?_, hR1.below hb5, fun ad e h => ?_⟩, ?_, ?_, ?_⟩
                      · rw [hsn]; unfold astep; rw [if_pos h2]; exact hLf
                      · rcases hg4.2 _ h with h1 | h1
                        · exact hap ad e h1
                        · have := hRd.lt ad e
                          have := hb1.size
                          omega
                      · rw [hsn]; unfold astep; rw [if_pos h2]; exact own_below ho4 hb5
                      · rw [hsn]; unfold astep; rw [if_pos h2]
                      · have hs4 := hg4.1.size
                        have hs1 := hb1.size
                        exact below_next (hg4.below (below_next hbl hb1 (by omega)) (by omega) (fun g hg => (how1.lt g hg).1)) hb5 (by omega)
                    have HS := Lib.hid hst
                    obtain ⟨hk1, hk0⟩ := hkk
                    have hwl := fun g (h : u13.ownBlock = some g) => (how.lt g h).2
                    have HWL := Lib.hid hwl
                    rw [hk1] at p1 hb1 kx
                    clear hadd hLn hst hkfs hsn hLf hRd hap how hil hiv hwl
                    generalize (ptsL (insR oc os S.2.2 x)).length = M at *
                    generalize S.2.2 = F at *
                    rw [hk1] at HS
                    clear hk1
                    go_wp2_with (first
                      | (go_at_call 73; refine (HADD.out _ hb1).mono ?_; rintro e w4 ⟨v4, rfl, ho4, hg4⟩; have kx4 := kx.grown hg4.1 (fun h => by have := HWL.out _ h.symm; omega); have x3 := kx4.cell 2)
                      | (go_at_call 67; refine (HLn.out _).mono ?_; rintro e w5 ⟨rfl, hb5⟩))
                    have HST := Lib.hid (HS.out _ _ _ ho4 hg4 hb5)
                    clear ho4 hg4 hb5 kx4 kx
                    go_roundw
                    case rel => exact ⟨k2 + 1, F + M, by omega, by go_num, by go_num, HST.out⟩
                    case measure => simp [intOf]; omega
                  · by_cases h1 : kOf x = 1
                    · obtain ⟨hkk, hxn1, hxn2⟩ : x.k = 1 ∧ 1 ≤ x.n ∧ x.n ≤ 1000 := by
                        rcases kOf_cases x with ⟨g, g1, _, g3, g4⟩ | ⟨g, g1, _, g3, g4⟩ | ⟨g, _⟩ | g <;> first | exact ⟨g1, g3, g4⟩ | (rw [g] at h1; cases h1) | (rw [g] at hx0; exact absurd rfl hx0) | exact absurd g h1 | exact absurd g h2
                      obtain ⟨N, hN⟩ := Int.eq_ofNat_of_zero_le (show 0 ≤ x.n by omega)
                      have hNt : x.n.toNat = N := by omega
                      have hw1 := below_next hbl hb1 (by omega)
                      have h0 : TakeRel R S.1 true (w.heap.size + 1) br (wo.alloc (.cells #[.int .i64 x.k, .int .i64 x.n, .string x.t] 57)) 0 u13 (wo.alloc (.cells #[.int .i64 x.k, .int .i64 x.n, .string x.t] 57)) := ⟨⟨_, _, _, R, Left.start hLf.val, hRd.below hb1, hap⟩, by simpa [OwnR] using own_below how hb1, Below.refl _ _, Nat.zero_le _⟩
                      have hlR := hLf.le
                      have hBx := (opB_n hx0).1
                      have htk := take_any R S.1 true (w.heap.size + 1) br N u13 _ h0 (by have := HTT.out; omega) hkfs (by rw [hLf.eqn]; exact hfitl.out.drop _) (by have := HTT.out; omega) (by omega)
                      have hst : ∀ w4 v4, TakeRel R S.1 true (w.heap.size + 1) br (wo.alloc (.cells #[.int .i64 x.k, .int .i64 x.n, .string x.t] 57)) N v4 w4 → ApRel l d oc os wm (w.heap.size + 1) br (k2 + 1) v4 S.2.2 w4 := fun w4 v4 ht => by
                        obtain ⟨⟨A3, m3, c3, R3, e1, e2, e3⟩, e4, e5, e6⟩ := ht
                        refine ⟨⟨A3, m3, c3, R3, ?_, e2, e3⟩, ?_, ?_, ?_⟩
                        · rw [hsn]; unfold astep; rw [if_neg h2, hNt]; exact hLf.trans e1
                        · rw [hsn]; unfold astep; rw [if_neg h2, hNt]; rw [if_pos h1]; rw [hLf.eqn] at e4; simpa only [Bool.false_eq_true, if_true, if_false] using e4
                        · rw [hsn]; unfold astep; rw [if_neg h2]
                        · exact hw1.trans e5
                      have HTK := Lib.hid htk
                      have HS := Lib.hid hst
                      rw [hkk, hN] at HTK HS
                      rw [hkk] at p1
                      rw [hN] at p2
                      clear htk hst h0 hkfs hsn hLf hRd hap how hN hNt hkk hw1 hBx hxn1 hxn2 kx hkB
                      generalize S.2.2 = F at *
                      go_wp2_with (go_at_call 74; refine (HTK.out).mono ?_; rintro e w4 ⟨v4, rfl, ht4⟩)
                      have HST := Lib.hid (HS.out _ _ ht4)
                      clear ht4
                      go_roundw
                      case rel => exact ⟨k2 + 1, F, by omega, by go_num, rfl, HST.out⟩
                      case measure => simp [intOf]; omega
                    · obtain ⟨hkk, hxn1, hxn2⟩ : x.k = 3 ∧ 1 ≤ x.n ∧ x.n ≤ 1000 := by
                        rcases kOf_cases x with ⟨g, g1, _, g3, g4⟩ | ⟨g, g1, _, g3, g4⟩ | ⟨g, _⟩ | g <;> first | exact ⟨g1, g3, g4⟩ | (rw [g] at h1; cases h1) | (rw [g] at hx0; exact absurd rfl hx0) | exact absurd g h1 | exact absurd g h2
                      obtain ⟨N, hN⟩ := Int.eq_ofNat_of_zero_le (show 0 ≤ x.n by omega)
                      have hNt : x.n.toNat = N := by omega
                      have hw1 := below_next hbl hb1 (by omega)
                      have h0 : TakeRel R S.1 false (w.heap.size + 1) br (wo.alloc (.cells #[.int .i64 x.k, .int .i64 x.n, .string x.t] 57)) 0 u13 (wo.alloc (.cells #[.int .i64 x.k, .int .i64 x.n, .string x.t] 57)) := ⟨⟨_, _, _, R, Left.start hLf.val, hRd.below hb1, hap⟩, by simpa [OwnR] using own_below how hb1, Below.refl _ _, Nat.zero_le _⟩
                      have hlR := hLf.le
                      have hBx := (opB_n hx0).1
                      have htk := take_any R S.1 false (w.heap.size + 1) br N u13 _ h0 (by have := HTT.out; omega) hkfs (by rw [hLf.eqn]; exact hfitl.out.drop _) (by have := HTT.out; omega) (by omega)
                      have hst : ∀ w4 v4, TakeRel R S.1 false (w.heap.size + 1) br (wo.alloc (.cells #[.int .i64 x.k, .int .i64 x.n, .string x.t] 57)) N v4 w4 → ApRel l d oc os wm (w.heap.size + 1) br (k2 + 1) v4 S.2.2 w4 := fun w4 v4 ht => by
                        obtain ⟨⟨A3, m3, c3, R3, e1, e2, e3⟩, e4, e5, e6⟩ := ht
                        refine ⟨⟨A3, m3, c3, R3, ?_, e2, e3⟩, ?_, ?_, ?_⟩
                        · rw [hsn]; unfold astep; rw [if_neg h2, hNt]; exact hLf.trans e1
                        · rw [hsn]; unfold astep; rw [if_neg h2, hNt]; rw [if_neg h1]; rw [hLf.eqn] at e4; simpa only [Bool.false_eq_true, if_true, if_false] using e4
                        · rw [hsn]; unfold astep; rw [if_neg h2]
                        · exact hw1.trans e5
                      have HTK := Lib.hid htk
                      have HS := Lib.hid hst
                      rw [hkk, hN] at HTK HS
                      rw [hkk] at p1
                      rw [hN] at p2
                      clear htk hst h0 hkfs hsn hLf hRd hap how hN hNt hkk hw1 hBx hxn1 hxn2 kx hkB
                      generalize S.2.2 = F at *
                      go_wp2_with (go_at_call 74; refine (HTK.out).mono ?_; rintro e w4 ⟨v4, rfl, ht4⟩)
                      have HST := Lib.hid (HS.out _ _ ht4)
                      clear ht4
                      go_roundw
                      case rel => exact ⟨k2 + 1, F, by omega, by go_num, rfl, HST.out⟩
                      case measure => simp [intOf]; omega
                · have hkn : d.take k2 = d := List.take_of_length_le (by have := HD.out; omega)
                  rw [hkn] at how
                  have HO2 := Lib.hid (own_base how (show w.heap.size ≤ w.heap.size + 1 by omega))
                  clear how hLf hRd hap hfr hkn
                  go_wp2
                  go_ret2
                  exact ap_some hres.out hbl0 HO2.out
      · have hres := Lib.hid (ap_3 (oc := oc) (os := os) hg HE.out hsum)
        have HBa := Lib.hid hBa
        clear hBa
        generalize (atoms l).length = T at *
        generalize sumOf opB d = S at *
        have hne : (S != (T : Int)) = true := by simpa using hsum
        clear hsum
        go_enter Try.func40, Try.ntmps40
        go_wp2_with (first
          | (go_at_call 29; refine (HC.out _ hb0).mono ?_; rintro e w2 ⟨rfl, hb2⟩; have hbb := hb0.trans (hb2.mono (by simp)))
          | (go_at_call 72; refine (HBa.out _ hbb).mono ?_; rintro e w3 ⟨rfl, hb3⟩; have hbb3 := below_next hbb hb3 hbb.size)
          | (go_at_call 31; refine (HLe.out _ hbb3).mono ?_; rintro e w4 ⟨rfl, hb4⟩; have hbb4 := below_next hbb3 hb4 hbb3.size; have kb4 := (((Blk.new w 35 #[.int .i64 oc, .int .i64 os]).below hb2 (by simp)).below hb3 (by have := hb2.size; simp at this; omega)).below hb4 (by have := hb2.size; have := hb3.size; simp at *; omega); obtain ⟨o1, o2⟩ := org_cells kb4))
        go_ret2
        exact ap_none hres.out hbb4
  · rw [e] at hC
    have HC := Lib.hid hC
    have hres := Lib.hid (ap_1 (d := d) (oc := oc) (os := os) hg)
    clear hC e
    go_enter Try.func40, Try.ntmps40
    go_wp2_with (go_at_call 29; refine (HC.out _ hb0).mono ?_; rintro e w2 ⟨rfl, hb2⟩; have hbb := hb0.trans (hb2.mono (by simp)))
    go_ret2
    exact ap_none hres.out hbb
end Go.Proofs.Ytdhpbfmamkndjaa.Doc
