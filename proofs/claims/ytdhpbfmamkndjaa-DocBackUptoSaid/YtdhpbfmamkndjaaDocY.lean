/- Contract: oxbowref12.Apply. -/
import Derived.Test.YtdhpbfmamkndjaaDocX
namespace Go.Proofs.Ytdhpbfmamkndjaa.Doc
open Go.RowKit Ox
set_option linter.unusedVariables false
set_option linter.unusedSimpArgs false
theorem has_atoms {l : List Rn} (h : Good l) (oc os : Int) : HasO l oc os ↔ ∃ a ∈ atoms l, a.c = oc ∧ a.s = os := by
  constructor
  · rintro ⟨r, hr, h1, h2⟩
    have hv := List.length_pos_iff.2 (h.val r hr).ptsL.2
    refine ⟨⟨r.c, r.s, r.f + (0 : Nat), (ptsL r).getD 0 0⟩, List.mem_flatMap.2 ⟨r, hr, ?_⟩, h1, h2⟩
    unfold atomsR
    exact List.mem_map.2 ⟨0, by simpa using hv, rfl⟩
  · rintro ⟨a, ha, h1, h2⟩
    obtain ⟨r, hr, hx⟩ := List.mem_flatMap.1 ha
    unfold atomsR at hx
    obtain ⟨j, _, rfl⟩ := List.mem_map.1 hx
    exact ⟨r, hr, h1, h2⟩
theorem cut_atoms {w : World} {B n x y : Nat} {A A' : Option Addr} {l : List At} (h : Reads w B 4 A n (atRows l)) (hxy : x ≤ y) (hy : y ≤ n) (hA : x < y → A' = A.map (fun a => a.add (x * 4))) :
    Reads w B 4 A' (y - x) (atRows ((l.take y).drop x)) := by
  have h2 := (h.take hy).cut (k := x) (cap := y) hxy (Nat.le_refl _)
  have e1 : ∀ (l : List At) (k : Nat), (atRows l).take (k * 4) = atRows (l.take k) := fun l k => by
    conv => lhs; rw [← List.take_append_drop k l, atRows_append]
    by_cases hk : k ≤ l.length
    · rw [List.take_left' (by rw [atRows_length, List.length_take]; omega)]
    · rw [List.drop_eq_nil_of_le (by omega), List.take_of_length_le (by rw [List.length_append, atRows_length, List.length_take]; simp [atRows]; omega)]
      simp [atRows]
  have e2 : ∀ (l : List At) (k : Nat), (atRows l).drop (k * 4) = atRows (l.drop k) := fun l k => by
    conv => lhs; rw [← List.take_append_drop k l, atRows_append]
    by_cases hk : k ≤ l.length
    · rw [List.drop_left' (by rw [atRows_length, List.length_take]; omega)]
    · rw [show l.drop k = [] from List.drop_eq_nil_of_le (by omega), List.drop_eq_nil_of_le (by rw [List.length_append, atRows_length, List.length_take]; simp [atRows]; omega)]
      simp [atRows]
  rw [e1, e2] at h2
  by_cases hlt : x < y
  · rw [if_neg (by omega)] at h2
    rw [hA hlt]
    exact h2
  · exact ⟨h2.1, fun hn => absurd hn (by omega)⟩
theorem cut_atoms2 {w : World} {B n x N : Nat} {A A' : Option Addr} {l : List At} (h : Reads w B 4 A n (atRows l)) (hy : x + N ≤ n) (hA : 0 < N → A' = A.map (fun a => a.add (x * 4))) : Reads w B 4 A' N (atRows ((l.drop x).take N)) := by
  have h1 := cut_atoms h (show x ≤ x + N by omega) hy (A' := A') (fun h => hA (by omega))
  rw [List.drop_take] at h1
  rwa [show x + N - x = N by omega] at h1
theorem astep_all {A : List At} {oc os : Int} {S : List At × Nat × Nat} {x : Opn} {N : Nat} (h0 : kOf x ≠ 0) (hN : x.n.toNat = N) : astep A oc os S x = (S.1 ++ (if kOf x = 1 then (A.drop S.2.1).take N else []) ++ atomsR (insR oc os S.2.2 x), S.2.1 + N, S.2.2 + (ptsL (insR oc os S.2.2 x)).length) := by
  have hnil : x.t.toList = [] → ptsL (insR oc os S.2.2 x) = [] := fun h => by
    unfold ptsL insR
    rw [← ByteArray.toList_eq, h, pts_nil]
    rfl
  unfold astep
  rcases kOf_cases x with ⟨g, _, g2, _⟩ | ⟨g, _, g2, _⟩ | ⟨g, _, g2, _⟩ | g
  · have e := hnil g2
    have e2 : atomsR (insR oc os S.2.2 x) = [] := by unfold atomsR; rw [e]; rfl
    rw [if_neg (by rw [g]; decide), e, e2, hN]
    simp
  · have e := hnil g2
    have e2 : atomsR (insR oc os S.2.2 x) = [] := by unfold atomsR; rw [e]; rfl
    rw [if_neg (by rw [g]; decide), e, e2, hN]
    simp
  · rw [if_pos g, if_neg (by rw [g]; decide)]
    have : N = 0 := by rw [← hN, g2]; rfl
    subst this
    simp
  · exact absurd g h0
theorem ins_small {oc os : Int} {fr : Nat} {x : Opn} (h0 : kOf x ≠ 0) : ((ptsL (insR oc os fr x)).length : Int) ≤ opT x := by
  have hnil : x.t.toList = [] → ptsL (insR oc os fr x) = [] := fun h => by
    unfold ptsL insR
    rw [← ByteArray.toList_eq, h, pts_nil]
    rfl
  have := opT_nonneg x
  rcases kOf_cases x with ⟨g, _, g2, _⟩ | ⟨g, _, g2, _⟩ | ⟨g, _, g2, _⟩ | g
  · rw [hnil g2]; simpa using this
  · rw [hnil g2]; simpa using this
  · rw [opT_ins g, ins_len (oc := oc) (os := os) (fr := fr) g]; omega
  · exact absurd g h0
theorem kOf_k {x : Opn} (h0 : kOf x ≠ 0) : (x.k = 1 ↔ kOf x = 1) := by
  rcases kOf_cases x with ⟨g, g1, _⟩ | ⟨g, g1, _⟩ | ⟨g, g1, _⟩ | g
  · simp [g, g1]
  · simp [g, g1]
  · simp [g, g1]
  · exact absurd g h0
/-- inside: the numbers vp are read, the row v grows -/
structure RpIn (L1 : List At) (r : Rn) (w : World) (B : Nat) (vp : Value) (i : Nat) (v : Value) (wr : World) : Prop where
  own : wr.ownsRow w.heap.size 59 4 v (L1.length + i) (atRows (L1 ++ (atomsR r).take i))
  below : Below w.heap.size w wr
  nums : wr.ownsRow B 3 1 vp (ptsL r).length (Text.ints (ptsL r))
  apart : ∀ g, v.ownBlock = some g → vp.ownBlock ≠ some g
structure RpRel (l : List Rn) (d : List Opn) (oc os : Int) (w : World) (k : Nat) (v : Value) (at_ fr : Nat) (wr : World) : Prop where
  own : OwnA wr w.heap.size v (stOf (atoms l) oc os (d.take k)).1
  atq : at_ = (stOf (atoms l) oc os (d.take k)).2.1
  frq : fr = (stOf (atoms l) oc os (d.take k)).2.2
  below : Below w.heap.size w wr
set_option maxRecDepth 100000 in
set_option maxHeartbeats 8000000 in
theorem rapply_any (A : Option Addr) (n c B : Nat) (l : List Rn) (Ad : Option Addr) (nd cd Bd : Nat) (d : List Opn) (oc os : Int) (w : World) (hr : Reads w B 4 A n (rows l)) (hB : B ≤ w.heap.size) (hn : n ≤ 100000000000) (hz : (bytesOf l).length ≤ 10000000000000) (hzr : ∀ r ∈ l, r.t.size ≤ 10000000000000) (hnc : n ≤ c) (hA : ∀ ad, A = some ad → ad.block < w.heap.size)
    (hd : Reads w Bd 3 Ad nd (opRows d)) (hBd : Bd ≤ w.heap.size) (hnd : nd ≤ 100000000000) (hzd : ∀ x ∈ d, x.t.size ≤ 10000000000) :
    Calls Try.prog 41 #[.slice A n c, .slice Ad nd cd, .agg #[.int .i64 oc, .int .i64 os]] w (ApRes (applyOf l d oc os) w) := by
  have HL := Lib.hid (rows_len hr)
  have HD := Lib.hid (opRows_len hd)
  have hC := fun w' (h : Below w.heap.size w w') => rcheck_any A n c B l w' (hr.below (h.mono hB)) (Nat.le_trans hB h.size) hn hzr
  have hBa := fun w' (h : Below w.heap.size w w') => rbase_any Ad nd cd Bd d w' (hd.below (h.mono hBd)) (Nat.le_trans hBd h.size) hnd hzd
  have hOr := fun w' => origin_any oc os w'
  have hb0 := (Below.refl w.heap.size w).alloc (Nat.le_refl _) (.cells #[.int .i64 oc, .int .i64 os] 35)
  rcases chk_cases l with ⟨hg, e⟩ | ⟨hg, e⟩
  · rw [e] at hC
    have HC := Lib.hid hC
    clear hC e
    have hLe := fun w' (h : Below w.heap.size w w') => atoms_any A n c B l w' (hr.below (h.mono hB)) (Nat.le_trans hB h.size) hn hzr (good_f hg) (Nat.le_trans (good_few hg) (by omega))
    have HLe := Lib.hid hLe
    clear hLe
    rcases chk9_cases d with ⟨e, hb⟩ | ⟨e, hb⟩ | ⟨e, hl3, ho, hs1, hs2, hb⟩
    · rw [hb] at hBa
      have HBa := Lib.hid hBa
      have hres := Lib.hid (show applyOf l d oc os = (none, 90) by rw [ap_2 hg (by rw [e]; decide), e])
      clear hBa hb e
      go_enter Try.func41, Try.ntmps41
      go_wp2_with (first
        | (go_at_call 34; refine (HC.out _ hb0).mono ?_; rintro e w2 ⟨rfl, hb2⟩; have hbb := hb0.trans (hb2.mono (by simp)))
        | (go_at_call 75; refine (HBa.out _ hbb).mono ?_; rintro e w3 ⟨rfl, hb3⟩; have hbb3 := below_next hbb hb3 hbb.size))
      go_ret2
      exact ap_none hres.out hbb3
    · rw [hb] at hBa
      have HBa := Lib.hid hBa
      have hres := Lib.hid (show applyOf l d oc os = (none, 91) by rw [ap_2 hg (by rw [e]; decide), e])
      clear hBa hb e
      go_enter Try.func41, Try.ntmps41
      go_wp2_with (first
        | (go_at_call 34; refine (HC.out _ hb0).mono ?_; rintro e w2 ⟨rfl, hb2⟩; have hbb := hb0.trans (hb2.mono (by simp)))
        | (go_at_call 75; refine (HBa.out _ hbb).mono ?_; rintro e w3 ⟨rfl, hb3⟩; have hbb3 := below_next hbb hb3 hbb.size))
      go_ret2
      exact ap_none hres.out hbb3
    · rw [hb] at hBa
      have hnn : ∀ y ∈ d, 0 ≤ opB y := fun y hy => by obtain ⟨h1, h2⟩ := opB_n (ho y hy); omega
      have hs0 := sumOf_nonneg opB d hnn
      have hal := good_few hg
      have HE := Lib.hid e
      have HO := Lib.hid ho
      clear e hb hnn ho
      by_cases hsum : sumOf opB d = ((atoms l).length : Int)
      · rw [hsum] at hBa
        have HBa := Lib.hid hBa
        have HSUM := Lib.hid hsum
        have hT : Hid (sumOf opT d ≤ 1000) := hs2
        clear hBa hsum hs0 hs1 hs2
        cases horg : orgB oc os with
        | false =>
          rw [horg] at hOr
          have HOr := Lib.hid hOr
          have hres := Lib.hid (ap_4 hg HE.out HSUM.out horg)
          clear hOr horg
          go_enter Try.func41, Try.ntmps41
          go_wp2_with (first
          | (go_at_call 34; refine (HC.out _ hb0).mono ?_; rintro e w2 ⟨rfl, hb2⟩; have hbb := hb0.trans (hb2.mono (by simp)))
          | (go_at_call 75; refine (HBa.out _ hbb).mono ?_; rintro e w3 ⟨rfl, hb3⟩; have hbb3 := below_next hbb hb3 hbb.size)
          | (go_at_call 43; refine (HLe.out _ hbb3).mono ?_; rintro e w4 ⟨va, rfl, hoa, hb4⟩; obtain ⟨Aa, ca, rfl, hnca, hcma, hra, _⟩ := own_slice hoa; have hbb4 := below_next hbb3 hb4 hbb3.size; have kb4 := (((Blk.new w 35 #[.int .i64 oc, .int .i64 os]).below hb2 (by simp)).below hb3 (by have := hb2.size; simp at this; omega)).below hb4 (by have := hb2.size; have := hb3.size; simp at *; omega); obtain ⟨o1, o2⟩ := org_cells kb4)
          | (go_at_call 71; refine (HOr.out _).mono ?_; rintro e w5 ⟨rfl, hb5⟩; have hbb5 := below_next hbb4 hb5 hbb4.size))
          go_ret2
          exact ap_none hres.out hbb5
        | true =>
          rw [horg] at hOr
          have HOr := Lib.hid hOr
          have HORG := Lib.hid horg
          clear hOr horg
          go_enter Try.func41, Try.ntmps41
          go_wp2_with (first
          | (go_at_call 34; refine (HC.out _ hb0).mono ?_; rintro e w2 ⟨rfl, hb2⟩; have hbb := hb0.trans (hb2.mono (by simp)))
          | (go_at_call 75; refine (HBa.out _ hbb).mono ?_; rintro e w3 ⟨rfl, hb3⟩; have hbb3 := below_next hbb hb3 hbb.size)
          | (go_at_call 43; refine (HLe.out _ hbb3).mono ?_; rintro e w4 ⟨va, rfl, hoa, hb4⟩; obtain ⟨Aa, ca, rfl, hnca, hcma, hra, _⟩ := own_slice hoa; have hbb4 := below_next hbb3 hb4 hbb3.size; have kb4 := (((Blk.new w 35 #[.int .i64 oc, .int .i64 os]).below hb2 (by simp)).below hb3 (by have := hb2.size; simp at this; omega)).below hb4 (by have := hb2.size; have := hb3.size; simp at *; omega); obtain ⟨o1, o2⟩ := org_cells kb4)
          | (go_at_call 71; refine (HOr.out _).mono ?_; rintro e w5 ⟨rfl, hb5⟩; have hbb5 := below_next hbb4 hb5 hbb4.size; have kb5 := kb4.below hb5 kb4.lt))
          have hB1 := Lib.hid (show Below w.heap.size w w5 from hbb5)
          have hra5 := Lib.hid ((hra.below hb5).more hb5.size)
          clear hbb hbb3 hbb4 hb2 hb3 hb4 hb5 o1 o2 kb4 HC HBa HLe HOr hra hoa
          go_loopw [12] (fun i wr => ∃ k : Nat, k ≤ (atoms l).length ∧ i = .int .i64 k ∧ Below w.heap.size w wr ∧ Below w5.heap.size w5 wr ∧ Hid (∀ (i : Nat) (r : At), i < k → (atoms l)[i]? = some r → ¬ (r.c = oc ∧ r.s = os))) (fun i _ => (atoms l).length - (intOf i).toNat)
          case atStart => exact ⟨0, Nat.zero_le _, rfl, hB1.out, Below.refl _ _, fun i r h _ => by omega⟩
          case round =>
            obtain ⟨wl, hwl⟩ : ∃ wl, wl = wr := ⟨_, rfl⟩
            subst hwl
            obtain ⟨k, hk, rfl, hbw, hb6, hno⟩ := hrel
            have kbo := kb5.below hb6 kb5.lt
            have hlo := kbo.lt
            have hra6 := (hra5.out.below hb6).more hb6.size
            obtain ⟨o1, o2⟩ := org_cells kbo
            by_cases hlt : k < (atoms l).length
            · obtain ⟨ad, p, r, rfl, hp, hbk, hx, p1, p2, p3, p4⟩ := atom_at hra6 hlt
              have z1 : (0 : Int) ≤ (k : Int) := by omega
              have z2 : (k : Int) < ((atoms l).length : Int) := by omega
              clear hra6
              by_cases h1 : r.c = oc
              · by_cases h2 : r.s = os
                · have hres := Lib.hid (ap_5 hg HE.out HSUM.out HORG.out ((has_atoms hg oc os).2 ⟨r, List.mem_of_getElem? hx.out, h1, h2⟩))
                  rw [h1] at p1
                  rw [h2] at p2
                  clear h1 h2
                  go_wp2
                  go_quiet (fail)
                  go_wp2
                  go_ret2
                  exact ap_none hres.out (below_drewN hbw _)
                · have hno2 : Hid (∀ (i : Nat) (r : At), i < k + 1 → (atoms l)[i]? = some r → ¬ (r.c = oc ∧ r.s = os)) := fun i r' hi h3 => by
                    rcases Nat.lt_or_ge i k with h4 | h4
                    · exact hno.out i r' h4 h3
                    · obtain rfl : i = k := by omega
                      rw [hx.out] at h3
                      cases h3
                      exact fun g => h2 g.2
                  rw [h1] at p1
                  clear h1
                  go_wp2
                  go_quiet (fail)
                  go_wp2
                  go_roundw
                  case rel => exact ⟨k + 1, by omega, by go_num, below_drewN hbw _, below_drewN hb6 _, hno2⟩
                  case measure => simp [intOf]; omega
              · have hno2 : Hid (∀ (i : Nat) (r : At), i < k + 1 → (atoms l)[i]? = some r → ¬ (r.c = oc ∧ r.s = os)) := fun i r' hi h3 => by
                  rcases Nat.lt_or_ge i k with h4 | h4
                  · exact hno.out i r' h4 h3
                  · obtain rfl : i = k := by omega
                    rw [hx.out] at h3
                    cases h3
                    exact fun g => h1 g.1
                go_wp2
                go_quiet (fail)
                go_wp2
                go_roundw
                case rel => exact ⟨k + 1, by omega, by go_num, below_drewN hbw _, below_drewN hb6 _, hno2⟩
                case measure => simp [intOf]; omega
            · have hnot : ¬ HasO l oc os := by
                intro h
                obtain ⟨r, hm, h1⟩ := (has_atoms hg oc os).1 h
                obtain ⟨i, hi, rfl⟩ := List.getElem_of_mem hm
                exact hno.out i _ (by omega) (List.getElem?_eq_getElem hi) h1
              have hres := Lib.hid (ap_6 hg HE.out HSUM.out HORG.out hnot)
              have hst0 : RpRel l d oc os wl 0 (.slice none 0 0) 0 0 wl := ⟨World.ownsRow_nil _ _ _ _, rfl, rfl, Below.refl _ _⟩
              have HST := Lib.hid hst0
              have hdr := Lib.hid ((hd.more hBd).below hbw)
              have HKO := Lib.hid kbo
              have HRA := Lib.hid hra6
              have hfitl := Lib.hid (good_fit hg)
              have hok := Lib.hid (fun k hk => st_ok (atoms l) oc os d HO.out k hk)
              clear hnot hst0 hno hr hd kbo hra6 o1 o2 kb5
              go_wp2
              go_loopw [13, 14, 15, 16] (fun v a f i wr => ∃ (k at_ fr : Nat), k ≤ nd ∧ i = .int .i64 k ∧ a = .int .i64 at_ ∧ f = .int .i64 fr ∧ RpRel l d oc os wl k v at_ fr wr) (fun _ _ _ i _ => nd - (intOf i).toNat)
              case atStart => exact ⟨0, 0, 0, Nat.zero_le _, rfl, rfl, rfl, HST.out⟩
              case round =>
                obtain ⟨wo, hwo⟩ : ∃ wo, wo = wr := ⟨_, rfl⟩
                subst hwo
                obtain ⟨k2, at_, fr, hk2, rfl, rfl, rfl, hrel2⟩ := hrel
                obtain ⟨how, rfl, rfl, hbl⟩ := hrel2
                have hbl0 : Below w.heap.size w wo := hbw.trans (hbl.mono (by omega))
                have hws := hbl.size
                by_cases hlt2 : k2 < nd
                · obtain ⟨ad, p, x, rfl, hp, hbk, hx, p1, p2, p3⟩ := op_at (hdr.out.below (hbl.mono (by omega))) hlt2
                  have hx0 := HO.out x (List.mem_of_getElem? hx.out)
                  have hxz := hzd x (List.mem_of_getElem? hx.out)
                  have hkok := hok.out k2 (by rw [HD.out]; exact hk2)
                  have hsn := st_snoc (atoms l) oc os hx.out
                  have hkT : sumOf opT (d.take k2) ≤ 1000 := by have := sumOf_take_le opT d k2 (fun y _ => opT_nonneg y); have := hT.out; omega
                  have hk1T : sumOf opT (d.take (k2 + 1)) ≤ 1000 := by have := sumOf_take_le opT d (k2 + 1) (fun y _ => opT_nonneg y); have := hT.out; omega
                  rw [sumOf_snoc _ hx.out] at hk1T
                  have hkB : sumOf opB (d.take (k2 + 1)) ≤ (atoms l).length := by
                    have := sumOf_take_le opB d (k2 + 1) (fun y hy => by obtain ⟨h1, h2⟩ := opB_n (HO.out y hy); omega)
                    have := HSUM.out
                    omega
                  rw [sumOf_snoc _ hx.out] at hkB
                  obtain ⟨hz1, hz2, hz3⟩ := hkok
                  have hBx := opB_n hx0
                  rw [hBx.1] at hkB
                  have hP := fun w => rpts_any (insR oc os (stOf (atoms l) oc os (d.take k2)).2.2 x) w (Nat.le_trans hxz (by omega))
                  change ∀ w, Calls Try.prog 76 #[.string x.t] w _ at hP
                  generalize stOf (atoms l) oc os (d.take k2) = S at *
                  have HP := Lib.hid hP
                  have HSN := Lib.hid hsn
                  obtain ⟨N, hN⟩ := Int.eq_ofNat_of_zero_le hBx.2
                  have hNt : x.n.toNat = N := by omega
                  rw [hN] at p2 hkB
                  clear hP hBx hN
                  have hcons := Lib.hid (hsn.trans (astep_all hx0 hNt))
                  clear hsn HSN
                  have hMb0 : (ptsL (insR oc os S.2.2 x)).length ≤ 1000 := by
                    have h5 := ins_small (oc := oc) (os := os) (fr := S.2.2) hx0
                    have h6 := sumOf_nonneg opT (d.take k2) fun y _ => opT_nonneg y
                    omega
                  have hzc : S.2.1 + N ≤ (atoms l).length := by omega
                  clear hz1 hkB
                  by_cases h1 : x.k = 1
                  · have hk1 : kOf x = 1 := (kOf_k hx0).1 h1
                    have hN1 : 1 ≤ N := by
                      rcases kOf_cases x with ⟨g, _, _, g3, _⟩ | ⟨g, _⟩ | ⟨g, _⟩ | g
                      · omega
                      · rw [g] at hk1; cases hk1
                      · rw [g] at hk1; cases hk1
                      · rw [g] at hk1; cases hk1
                    have hcne : ¬ ca = S.2.1 := by omega
                    have hcut : ∀ (A' : Option Addr) (m : Nat), m = N → (A' = Option.map (fun x => x.add (S.2.1 * 4)) Aa) → Reads wo wo.heap.size 4 A' m (atRows (((atoms l).drop S.2.1).take N)) := by
                      rintro A' m rfl rfl
                      exact cut_atoms2 ((HRA.out.below hbl).more hbl.size) hzc (fun h => rfl)
                    have HCUT := Lib.hid hcut
                    clear hcut
                    go_wp2_with (at_builtin; refine wpList_pushAll (.tmp 67) (.tmp 77) 54 59 4 32 rfl rfl Try.underlying54 info_atm rfl (by decide) rfl rfl (HCUT.out _ _ (by omega) (by first | rfl | exact if_neg hcne)) (atRows_one _) how hbl (Nat.le_refl _) hws hws (by omega) (by omega) ?_)
                    all_goals
                      intro v2 w2 ho2 hb2 hs2 hg2
                      obtain ⟨L1, hL1⟩ : ∃ L1, L1 = S.1 ++ (if kOf x = 1 then ((atoms l).drop S.2.1).take N else []) := ⟨_, rfl⟩
                      rw [← hL1] at hcons
                      have hlenN : (((atoms l).drop S.2.1).take N).length = N := by rw [List.length_take, List.length_drop]; omega
                      have how2 : w2.ownsRow wl.heap.size 59 4 v2 L1.length (atRows L1) := by
                        rw [hL1, if_pos hk1, List.length_append, atRows_append, hlenN]
                        exact ho2
                      have hL1n : L1.length ≤ 100000 := by rw [hL1, if_pos hk1, List.length_append, hlenN]; omega
                      have hbl2 := hb2
                      have hMb : (ptsL (insR oc os S.2.2 x)).length ≤ 1000 := hMb0
                      have hpl : p.block < wl.heap.size := by omega
                      have t1 := (hb2.cell (p := p) hpl).trans ((hbl.cell (p := p) hpl).symm.trans p1)
                      have t2 := (hb2.cell (p := ⟨p.block, p.off + 1, none⟩) hpl).trans ((hbl.cell (p := ⟨p.block, p.off + 1, none⟩) hpl).symm.trans p2)
                      have t3 := (hb2.cell (p := ⟨p.block, p.off + 2, none⟩) hpl).trans ((hbl.cell (p := ⟨p.block, p.off + 2, none⟩) hpl).symm.trans p3)
                      clear hL1 how HCUT hg2 ho2 hlenN p1 p2 p3
                      go_wp2_with (go_at_call 76; refine (HP.out _).mono ?_; rintro e w3 ⟨hb3, vp, bp, rfl, hop⟩; obtain ⟨Ap, cp, rfl, hncp, hcmp, _, _⟩ := own_slice hop)
                      have hlt3 := how2.lt
                      have hin : RpIn L1 (insR oc os S.2.2 x) wl w2.heap.size (.slice Ap (ptsL (insR oc os S.2.2 x)).length cp) 0 v2 w3 := ⟨by simpa using own_below how2 hb3, below_next hbl2 hb3 hbl2.size, hop, fun g hg h => by have := (hlt3 g hg).2; have := (hop.lt g h).1; omega⟩
                      have HI := Lib.hid hin
                      generalize hPL : (ptsL (insR oc os S.2.2 x)).length = M at *
                      have HPL := Lib.hid hPL
                      clear hin hlt3 hPL how2 hop
                      go_loopw [13, 15, 19] (fun v f j wr => ∃ i : Nat, i ≤ M ∧ j = .int .i64 i ∧ f = .int .i64 ((S.2.2 + i : Nat) : Int) ∧ RpIn L1 (insR oc os S.2.2 x) wl w2.heap.size (.slice Ap M cp) i v wr) (fun _ _ j _ => M - (intOf j).toNat)
                      case atStart => exact ⟨0, Nat.zero_le _, rfl, rfl, HI.out⟩
                      case round =>
                        obtain ⟨i, hi, rfl, rfl, hI⟩ := hrel
                        by_cases hiN : i < M
                        · have hnums := hI.nums
                          rw [HPL.out] at hnums
                          obtain ⟨ad2, y, rfl, hbk2, hyi, hci⟩ := Text.int_at (Reads.of_own hnums) hiN
                          obtain ⟨o1, o2⟩ := org_cells (HKO.out.below hI.below (by omega))
                          have hbs := hI.below.size
                          have hM2 : (M : Int) ≤ 1000000 := by omega
                          have hown := World.ownsRow.drew hI.own
                          have HOWN := Lib.hid hown
                          have z1 : (0 : Int) ≤ (i : Int) := by omega
                          clear hnums hown
                          go_wp2
                          refine wp_region_drew (by kernel_rfl) (by kernel_rfl) ?_
                          go_wp2_with (at_builtin; refine wpList_pushAt (.tmp 101) (.tmp 109) 54 59 4 32 [.int .i64 oc, .int .i64 os, .int .i64 ((S.2.2 : Int) + (i : Int)), .int .i64 y] rfl rfl Try.underlying54 info_atm rfl (by decide) rfl rfl HOWN.out hI.below.drew (Nat.le_refl _) hbs rfl (by simp [Value.oneCell']) (by omega) (by omega) ?_)
                          intro v1 w1 ho1 hb1 hl1 hg1 hloc
                          have hst : RpIn L1 (insR oc os S.2.2 x) wl w2.heap.size (.slice (some ad2) M cp) (i + 1) v1 w1 := by
                            refine ⟨?_, hb1, ?_, ?_⟩
                            · rw [atomsR_take hyi.out, ← List.append_assoc, atRows_append]
                              simpa [atRows, At.row, insR, Nat.add_assoc] using ho1
                            · refine World.ownsRow.kept (w := _) (World.ownsRow.drew hI.nums) hg1 (.inr fun e => ?_)
                              exact hI.apart _ e.symm rfl
                            · intro g hg h
                              rcases hloc g hg with h2 | h2
                              · exact hI.apart g h2 h
                              · have := (hI.nums.lt g h).2
                                omega
                          have HS := Lib.hid hst
                          clear hst ho1 hb1 hg1 hloc
                          go_wp2
                          refine FinQ.intro (by kernel_rfl) ?_
                          go_wp2
                          go_roundw
                          case rel => exact ⟨i + 1, by omega, by go_num, by go_num, HS.out⟩
                          case measure => simp [intOf]; omega
                        · have hiM : i = M := by omega
                          subst hiM
                          have hst : RpRel l d oc os wl (k2 + 1) u13 (S.2.1 + N) (S.2.2 + i) wr := by
                            have h := hI.own
                            have e1 : (atomsR (insR oc os S.2.2 x)).take i = atomsR (insR oc os S.2.2 x) := List.take_of_length_le (by rw [atomsR_length, HPL.out]; exact Nat.le_refl _)
                            rw [e1] at h
                            refine ⟨?_, ?_, ?_, hI.below⟩
                            · rw [hcons.out]; unfold OwnA; rw [List.length_append, atomsR_length, HPL.out]; exact h
                            · rw [hcons.out]
                            · rw [hcons.out]
                          have HS := Lib.hid hst
                          clear hst
                          go_wp2
                          go_roundw
                          case rel => exact ⟨k2 + 1, S.2.1 + N, S.2.2 + i, by omega, by go_num, by go_num, rfl, HS.out⟩
                          case measure => simp [intOf]; omega
                  · obtain ⟨L1, hL1⟩ : ∃ L1, L1 = S.1 ++ (if kOf x = 1 then ((atoms l).drop S.2.1).take N else []) := ⟨_, rfl⟩
                    have hne1 : ¬ kOf x = 1 := fun g => h1 ((kOf_k hx0).2 g)
                    rw [← hL1] at hcons
                    have HL1 := Lib.hid hL1
                    have how2 : wo.ownsRow wl.heap.size 59 4 u13 L1.length (atRows L1) := by rw [hL1, if_neg hne1, List.append_nil]; exact how
                    have hL1n : L1.length ≤ 1000 := by rw [hL1, if_neg hne1, List.append_nil]; omega
                    have hbl2 := hbl
                    have hMb : (ptsL (insR oc os S.2.2 x)).length ≤ 1000 := hMb0
                    clear hL1 how
                    go_wp2_with (go_at_call 76; refine (HP.out _).mono ?_; rintro e w3 ⟨hb3, vp, bp, rfl, hop⟩; obtain ⟨Ap, cp, rfl, hncp, hcmp, _, _⟩ := own_slice hop)
                    have hlt3 := how2.lt
                    have hin : RpIn L1 (insR oc os S.2.2 x) wl wo.heap.size (.slice Ap (ptsL (insR oc os S.2.2 x)).length cp) 0 u13 w3 := ⟨by simpa using own_below how2 hb3, below_next hbl2 hb3 hbl2.size, hop, fun g hg h => by have := (hlt3 g hg).2; have := (hop.lt g h).1; omega⟩
                    have HI := Lib.hid hin
                    generalize hPL : (ptsL (insR oc os S.2.2 x)).length = M at *
                    have HPL := Lib.hid hPL
                    clear hin hlt3 hPL how2 hop
                    go_loopw [13, 15, 19] (fun v f j wr => ∃ i : Nat, i ≤ M ∧ j = .int .i64 i ∧ f = .int .i64 ((S.2.2 + i : Nat) : Int) ∧ RpIn L1 (insR oc os S.2.2 x) wl wo.heap.size (.slice Ap M cp) i v wr) (fun _ _ j _ => M - (intOf j).toNat)
                    case atStart => exact ⟨0, Nat.zero_le _, rfl, rfl, HI.out⟩
                    case round =>
                      obtain ⟨i, hi, rfl, rfl, hI⟩ := hrel
                      by_cases hiN : i < M
                      · have hnums := hI.nums
                        rw [HPL.out] at hnums
                        obtain ⟨ad2, y, rfl, hbk2, hyi, hci⟩ := Text.int_at (Reads.of_own hnums) hiN
                        obtain ⟨o1, o2⟩ := org_cells (HKO.out.below hI.below (by omega))
                        have hbs := hI.below.size
                        have hM2 : (M : Int) ≤ 1000000 := by omega
                        have hown := World.ownsRow.drew hI.own
                        have HOWN := Lib.hid hown
                        have z1 : (0 : Int) ≤ (i : Int) := by omega
                        clear hnums hown
                        go_wp2
                        refine wp_region_drew (by kernel_rfl) (by kernel_rfl) ?_
                        go_wp2_with (at_builtin; refine wpList_pushAt (.tmp 101) (.tmp 109) 54 59 4 32 [.int .i64 oc, .int .i64 os, .int .i64 ((S.2.2 : Int) + (i : Int)), .int .i64 y] rfl rfl Try.underlying54 info_atm rfl (by decide) rfl rfl HOWN.out hI.below.drew (Nat.le_refl _) hbs rfl (by simp [Value.oneCell']) (by omega) (by omega) ?_)
                        intro v1 w1 ho1 hb1 hl1 hg1 hloc
                        have hst : RpIn L1 (insR oc os S.2.2 x) wl wo.heap.size (.slice (some ad2) M cp) (i + 1) v1 w1 := by
                          refine ⟨?_, hb1, ?_, ?_⟩
                          · rw [atomsR_take hyi.out, ← List.append_assoc, atRows_append]
                            simpa [atRows, At.row, insR, Nat.add_assoc] using ho1
                          · refine World.ownsRow.kept (w := _) (World.ownsRow.drew hI.nums) hg1 (.inr fun e => ?_)
                            exact hI.apart _ e.symm rfl
                          · intro g hg h
                            rcases hloc g hg with h2 | h2
                            · exact hI.apart g h2 h
                            · have := (hI.nums.lt g h).2
                              omega
                        have HS := Lib.hid hst
                        clear hst ho1 hb1 hg1 hloc
                        go_wp2
                        refine FinQ.intro (by kernel_rfl) ?_
                        go_wp2
                        go_roundw
                        case rel => exact ⟨i + 1, by omega, by go_num, by go_num, HS.out⟩
                        case measure => simp [intOf]; omega
                      · have hiM : i = M := by omega
                        subst hiM
                        have hst : RpRel l d oc os wl (k2 + 1) u13 (S.2.1 + N) (S.2.2 + i) wr := by
                          have h := hI.own
                          have e1 : (atomsR (insR oc os S.2.2 x)).take i = atomsR (insR oc os S.2.2 x) := List.take_of_length_le (by rw [atomsR_length, HPL.out]; exact Nat.le_refl _)
                          rw [e1] at h
                          refine ⟨?_, ?_, ?_, hI.below⟩
                          · rw [hcons.out]; unfold OwnA; rw [List.length_append, atomsR_length, HPL.out]; exact h
                          · rw [hcons.out]
                          · rw [hcons.out]
                        have HS := Lib.hid hst
                        clear hst
                        go_wp2
                        go_roundw
                        case rel => exact ⟨k2 + 1, S.2.1 + N, S.2.2 + i, by omega, by go_num, by go_num, rfl, HS.out⟩
                        case measure => simp [intOf]; omega
                · have hkn : d.take k2 = d := List.take_of_length_le (by have := HD.out; omega)
                  rw [hkn] at how
                  obtain ⟨Ao, co, rfl, hnco, hcmo, hrdo, _⟩ := own_slice how
                  have hfo := stOf_fit (atoms l) oc os d (good_fit hg) HO.out hT.out d.length (Nat.le_refl _)
                  rw [List.take_length] at hfo
                  have hlo3 := hok.out d.length (Nat.le_refl _)
                  rw [List.take_length] at hlo3
                  have hl3 := hlo3.len
                  have hRu := runs_any Ao _ co wo.heap.size _ wo hrdo (Nat.le_refl _) (by have := hT.out; omega) (fun y hy => by have := hfo y hy; omega)
                  have HRu := Lib.hid hRu
                  clear hRu hrdo hfo hlo3 hl3 how hkn
                  go_wp2_with (go_at_call 77; refine (HRu.out).mono ?_; rintro e w9 ⟨v9, rfl, ho9, hb9⟩)
                  go_ret2
                  exact ap_some hres.out (below_next hbl0 hb9 hbl0.size) (own_base ho9 hbl0.size)
      · have hres := Lib.hid (ap_3 (oc := oc) (os := os) hg HE.out hsum)
        have HBa := Lib.hid hBa
        clear hBa
        generalize sumOf opB d = S at *
        have hne : (S != ((atoms l).length : Int)) = true := by simpa using hsum
        clear hsum
        go_enter Try.func41, Try.ntmps41
        go_wp2_with (first
          | (go_at_call 34; refine (HC.out _ hb0).mono ?_; rintro e w2 ⟨rfl, hb2⟩; have hbb := hb0.trans (hb2.mono (by simp)))
          | (go_at_call 75; refine (HBa.out _ hbb).mono ?_; rintro e w3 ⟨rfl, hb3⟩; have hbb3 := below_next hbb hb3 hbb.size)
          | (go_at_call 43; refine (HLe.out _ hbb3).mono ?_; rintro e w4 ⟨va, rfl, hoa, hb4⟩; obtain ⟨Aa, ca, rfl, hnca, hcma, hra, _⟩ := own_slice hoa; have hbb4 := below_next hbb3 hb4 hbb3.size; have kb4 := (((Blk.new w 35 #[.int .i64 oc, .int .i64 os]).below hb2 (by simp)).below hb3 (by have := hb2.size; simp at this; omega)).below hb4 (by have := hb2.size; have := hb3.size; simp at *; omega); obtain ⟨o1, o2⟩ := org_cells kb4))
        go_ret2
        exact ap_none hres.out hbb4
  · rw [e] at hC
    have HC := Lib.hid hC
    have hres := Lib.hid (ap_1 (d := d) (oc := oc) (os := os) hg)
    clear hC e
    go_enter Try.func41, Try.ntmps41
    go_wp2_with (go_at_call 34; refine (HC.out _ hb0).mono ?_; rintro e w2 ⟨rfl, hb2⟩; have hbb := hb0.trans (hb2.mono (by simp)))
    go_ret2
    exact ap_none hres.out hbb
end Go.Proofs.Ytdhpbfmamkndjaa.Doc
