/- Contract: doc.Check. -/
import Derived.Test.YtdhpbfmamkndjaaDocE
namespace Go.Proofs.Ytdhpbfmamkndjaa.Doc
open Go.RowKit Ox
set_option linter.unusedVariables false
set_option linter.unusedSimpArgs false
/-- the block of the run at hand, and what lies below is as it was -/
def Cur (w0 : World) (r : Rn) (w : World) : Prop := Below w0.heap.size w0 w ∧ w0.heap.size < w.heap.size ∧
  w.cell? ⟨w0.heap.size, 0, none⟩ = some (.int .i64 r.c) ∧ w.cell? ⟨w0.heap.size, 1, none⟩ = some (.int .i64 r.s) ∧ w.cell? ⟨w0.heap.size, 2, none⟩ = some (.int .i64 r.f) ∧ w.cell? ⟨w0.heap.size, 3, none⟩ = some (.string r.t)
theorem Cur.next {w0 w w' : World} {r : Rn} (h : Cur w0 r w) (hb : Below w.heap.size w w') : Cur w0 r w' := by
  obtain ⟨h0, h1, c1, c2, c3, c4⟩ := h
  have hs := hb.size
  exact ⟨below_next h0 hb (by omega), by omega, (hb.cell (by simp; omega)).trans c1, (hb.cell (by simp; omega)).trans c2, (hb.cell (by simp; omega)).trans c3, (hb.cell (by simp; omega)).trans c4⟩
theorem Cur.drew {w0 w : World} {r : Rn} (h : Cur w0 r w) : Cur w0 r w.drew := h.next (Below.refl _ _).drew
theorem Cur.start (w : World) (r : Rn) (ty : TypeId) : Cur w r (w.alloc (.cells #[.int .i64 r.c, .int .i64 r.s, .int .i64 r.f, .string r.t] ty)) := by
  have h1 := Blk.new w ty #[.int .i64 r.c, .int .i64 r.s, .int .i64 r.f, .string r.t]
  exact ⟨(Below.refl _ _).alloc (Nat.le_refl _) _, by simp, h1.cell 0, h1.cell 1, h1.cell 2, h1.cell 3⟩
theorem Cur.whole {w0 w : World} {r : Rn} (h : Cur w0 r w) {W : World} (hb : Below W.heap.size W w0) : Below W.heap.size W w := below_next hb h.1 hb.size
theorem num_of {l : List Rn} {x : Int} {w w' : World} (h : chk l = x) (hb : Below w.heap.size w w') : Text.Num (chk l) w (.returned (.int .i64 x)) w' := ⟨by rw [h], hb⟩
theorem cases_run (r : Rn) : (orgB r.c r.s = false ∧ ¬ OkRun r) ∨ (orgB r.c r.s = true ∧ lenR r < 1 ∧ ¬ OkRun r) ∨ (orgB r.c r.s = true ∧ 1 ≤ lenR r ∧ r.f < 0 ∧ ¬ OkRun r) ∨ (orgB r.c r.s = true ∧ 1 ≤ lenR r ∧ 999 < r.f ∧ ¬ OkRun r) ∨
    (orgB r.c r.s = true ∧ 1 ≤ lenR r ∧ 0 ≤ r.f ∧ r.f ≤ 999 ∧ 1000 < r.f + lenR r ∧ ¬ OkRun r) ∨ (orgB r.c r.s = true ∧ 1 ≤ lenR r ∧ 0 ≤ r.f ∧ r.f ≤ 999 ∧ r.f + lenR r ≤ 1000) := by
  cases ho : orgB r.c r.s with
  | false => exact .inl ⟨rfl, fun g => by have := g.org; rw [ho] at this; cases this⟩
  | true =>
    by_cases h1 : lenR r < 1
    · exact .inr (.inl ⟨rfl, h1, fun g => by have := g.len; omega⟩)
    · by_cases h2 : r.f < 0
      · exact .inr (.inr (.inl ⟨rfl, by omega, h2, fun g => by have := g.lo; omega⟩))
      · by_cases h3 : 999 < r.f
        · exact .inr (.inr (.inr (.inl ⟨rfl, by omega, h3, fun g => by have := g.hi; omega⟩)))
        · by_cases h4 : 1000 < r.f + lenR r
          · exact .inr (.inr (.inr (.inr (.inl ⟨rfl, by omega, by omega, by omega, h4, fun g => by have := g.last; omega⟩))))
          · exact .inr (.inr (.inr (.inr (.inr ⟨rfl, by omega, by omega, by omega, by omega⟩))))
/-- the loop over a run's atoms -/
structure InRel (l : List Rn) (w : World) (N : Nat) (r : Rn) (k i : Nat) (wr : World) : Prop where
  met : ∃ D, Met wr w.heap.size (names (l.take k) ++ (namesR r).take i) D
  below : Below w.heap.size w wr
  lt : N < wr.heap.size
  c1 : wr.cell? ⟨N, 0, none⟩ = some (.int .i64 r.c)
  c2 : wr.cell? ⟨N, 1, none⟩ = some (.int .i64 r.s)
  c3 : wr.cell? ⟨N, 2, none⟩ = some (.int .i64 r.f)
theorem InRel.grown {l : List Rn} {w wr w' : World} {N k i i' : Nat} {r : Rn} (h : InRel l w N r k i wr) (hN : w.heap.size < N) (hg : wr.grownBy w' (some w.heap.size)) (hm : ∃ D, Met w' w.heap.size (names (l.take k) ++ (namesR r).take i') D) : InRel l w N r k i' w' := by
  have hb := hg.block N h.lt (by simp; omega)
  exact ⟨hm, h.below.grown hg (Nat.le_trans h.below.size (Nat.le_refl _)) (fun k hk => by cases hk; exact Nat.le_refl _), Nat.lt_of_lt_of_le h.lt hg.size,
    (World.cell?_of_block (w := wr) (a := ⟨N, 0, none⟩) hb).trans h.c1, (World.cell?_of_block (w := wr) (a := ⟨N, 1, none⟩) hb).trans h.c2, (World.cell?_of_block (w := wr) (a := ⟨N, 2, none⟩) hb).trans h.c3⟩
theorem namesR_take {r : Rn} {i M : Nat} (hM : lenR r = (M : Int)) (hi : i < M) : (namesR r).take (i + 1) = (namesR r).take i ++ [(r.c, r.s, r.f + (i : Int))] := by
  refine take_snoc ?_
  unfold namesR
  rw [List.getElem?_map, List.getElem?_range (by rw [hM]; simpa using hi)]
  rfl
theorem org_lo {c s : Int} (h : orgB c s = true) : (-9223372036854775808 ≤ c ∧ c ≤ 9223372036854775807) ∧ (-9223372036854775808 ≤ s ∧ s ≤ 9223372036854775807) := by
  simp [orgB] at h
  omega
theorem room {l : List Rn} {k M : Nat} {r : Rn} (i : Nat) (hg : Good (l.take k)) (hM : lenR r = (M : Int)) (hM2 : M ≤ 1000) : (names (l.take k) ++ (namesR r).take i).length ≤ 2000 := by
  have h1 := hg.few
  have h2 := namesR_length r
  have h3 := List.length_take_le' i (namesR r)
  rw [List.length_append]
  omega
theorem dup_not {xs : List Nm} {r : Rn} {i M : Nat} (hM : lenR r = (M : Int)) (hi : i < M) (hm : ((r.c, r.s, r.f + (i : Int)) : Nm) ∈ xs ++ (namesR r).take i) : ¬ (xs ++ namesR r).Nodup := by
  intro h
  rw [← List.take_append_drop (i + 1) (namesR r), namesR_take hM hi, ← List.append_assoc, ← List.append_assoc] at h
  have h2 := (List.nodup_append.1 h).1
  have h3 := (List.nodup_append.1 h2).2.2
  exact h3 _ hm _ (by simp) rfl
/-- the loop over the runs -/
structure ChkRel (l : List Rn) (w : World) (k : Nat) (wr : World) : Prop where
  good : Good (l.take k)
  met : ∃ D, Met wr w.heap.size (names (l.take k)) D
  below : Below w.heap.size w wr
  lt : w.heap.size < wr.heap.size
set_option maxRecDepth 100000 in
set_option maxHeartbeats 8000000 in
theorem check_any (A : Option Addr) (n c B : Nat) (l : List Rn) (w : World) (hr : Reads w B 4 A n (rows l)) (hB : B ≤ w.heap.size) (hn : n ≤ 100000000000) (hz : ∀ r ∈ l, r.t.size ≤ 10000000000000) :
    Calls Try.prog 29 #[.slice A n c] w (Text.Num (chk l) w) := by
  have HL := Lib.hid (rows_len hr)
  have hmm := @run_makeMap Try.prog
  go_enter Try.func29, Try.ntmps29
  go_wp2
  go_loopw [11] (fun i wr => ∃ k : Nat, k ≤ n ∧ i = .int .i64 k ∧ ChkRel l w k wr) (fun i _ => n - (intOf i).toNat)
  case atStart => exact ⟨0, Nat.zero_le _, rfl, Good.nil, ⟨_, Met.start w⟩, (Below.refl _ _).alloc (Nat.le_refl _) _, by simp⟩
  case round =>
    obtain ⟨wo, hwo⟩ : ∃ wo, wo = wr := ⟨_, rfl⟩
    subst hwo
    obtain ⟨k, hk, rfl, hrl⟩ := hrel
    by_cases hlt : k < n
    · have hr2 := (hr.more hB).below hrl.below
      obtain ⟨ad, p, r, rfl, hp, hbk, hx, p1, p2, p3, p4⟩ := run_at hr2 hlt
      have hlw := hrl.lt
      have hL := fun w => Text.len_any r.t w (hz r (List.mem_of_getElem? hx.out))
      have hlo := lenR_hi r
      have hrz := hz r (List.mem_of_getElem? hx.out)
      change ∀ w, Calls Try.prog 67 #[.string r.t] w (Text.Num (lenR r) w) at hL
      have HLn := Lib.hid hL
      clear hL
      go_wp2_with (go_at_call 67; refine (HLn.out _).mono ?_; rintro e w2 ⟨rfl, hb2⟩)
      have hc2 := (Cur.start wo r 37).next hb2
      have HC := Lib.hid hc2
      obtain ⟨_, cl, c1, c2, c3, c4⟩ := hc2
      have hO := fun w => isOrigin_any r.c r.s w
      rcases cases_run r with ⟨g1, g⟩ | ⟨g1, g2, g⟩ | ⟨g1, g2, g3, g⟩ | ⟨g1, g2, g3, g⟩ | ⟨g1, g2, g3, g4, g5, g⟩ | ⟨g1, g2, g3, g4, g5⟩
      iterate 5
        · rw [g1] at hO
          have HO := Lib.hid hO
          have hch := Lib.hid (chk_run hx.out g)
          clear hO g1 g
          (first | (have q0 : decide (lenR r < 1) = true := decide_eq_true (by omega)) | (have q0 : decide (lenR r < 1) = false := decide_eq_false (by omega)) | skip)
          (first | (have q1 : decide (r.f < 0) = true := decide_eq_true (by omega)) | (have q1 : decide (r.f < 0) = false := decide_eq_false (by omega)) | skip)
          (first | (have q2 : decide (999 < r.f) = true := decide_eq_true (by omega)) | (have q2 : decide (999 < r.f) = false := decide_eq_false (by omega)) | skip)
          (first | (have q3 : decide (999 < r.f + lenR r - 1) = true := decide_eq_true (by omega)) | (have q3 : decide (999 < r.f + lenR r - 1) = false := decide_eq_false (by omega)) | skip)
          refine wp_region_drew (by kernel_rfl) (by kernel_rfl) ?_
          go_wp2_with (go_at_call 68; refine (HO.out _).mono ?_; rintro e w3 ⟨rfl, hb3⟩; obtain ⟨_, _, d1, d2, d3, d4⟩ := HC.out.drew.next hb3)
          refine FinQ.intro (by kernel_rfl) ?_
          go_wp2
          go_ret
          exact num_of hch.out ((HC.out.drew.next hb3).whole hrl.below)
      · rw [g1] at hO
        have HO := Lib.hid hO
        clear hO
        obtain ⟨M, hM⟩ := Int.eq_ofNat_of_zero_le (show 0 ≤ lenR r by omega)
        rw [hM] at g2 g5 hlo ⊢
        have HM := Lib.hid hM
        clear hM
        have hsum : IntKind.i64.wrap (r.f + (M : Int)) = r.f + (M : Int) := IntWalk.i64_in _ (by omega)
        (first | (have q0 : decide ((M : Int) < 1) = true := decide_eq_true (by omega)) | (have q0 : decide ((M : Int) < 1) = false := decide_eq_false (by omega)) | skip)
        (first | (have q1 : decide (r.f < 0) = true := decide_eq_true (by omega)) | (have q1 : decide (r.f < 0) = false := decide_eq_false (by omega)) | skip)
        (first | (have q2 : decide (999 < r.f) = true := decide_eq_true (by omega)) | (have q2 : decide (999 < r.f) = false := decide_eq_false (by omega)) | skip)
        (first | (have q3 : decide (999 < r.f + (M : Int) - 1) = true := decide_eq_true (by omega)) | (have q3 : decide (999 < r.f + (M : Int) - 1) = false := decide_eq_false (by omega)) | skip)
        obtain ⟨kk, hkk⟩ : ∃ kk, kk = k := ⟨_, rfl⟩
        rw [← hkk] at hx hrl
        have hapart : k = 0 → ∀ (i : Nat) (a : Rn), kk = i + 1 → l[i]? = some a → folB a r = false := fun _ i a h => by omega
        cases k with
        | zero =>
          have HA := Lib.hid (hapart rfl)
          clear hapart
          refine wp_region_drew (by kernel_rfl) (by kernel_rfl) ?_
          go_wp2_with (go_at_call 68; refine (HO.out _).mono ?_; rintro e w3 ⟨rfl, hb3⟩; obtain ⟨_, _, d1, d2, d3, d4⟩ := HC.out.drew.next hb3)
          refine FinQ.intro (by kernel_rfl) ?_
          go_wp2
          have H3 := HC.out.drew.next hb3
          have hin : InRel l w wo.heap.size r kk 0 w3 := ⟨by obtain ⟨D, hD⟩ := hrl.met; exact ⟨D, by simpa using hD.kept (row := none) (only_of_below H3.1 none) (by simp)⟩, H3.whole hrl.below, H3.2.1, H3.2.2.1, H3.2.2.2.1, H3.2.2.2.2.1⟩
          have HI := Lib.hid hin
          have hr2 := Lib.hid hr2
          clear HC H3 d1 d2 d3 d4 c1 c2 c3 c4 p1 p2 p3 p4 hin hb3 hb2 HO HLn
          go_loopw [59] (fun j wr2 => ∃ i : Nat, j = .int .i64 i ∧ i ≤ M ∧ InRel l w wo.heap.size r kk i wr2) (fun j _ => M - (intOf j).toNat)
          case atStart => exact ⟨0, rfl, Nat.zero_le _, HI.out⟩
          case round =>
            obtain ⟨i, rfl, hi, hI⟩ := hrel
            by_cases hiM : i < M
            · have HII := Lib.hid hI
              obtain ⟨⟨D, hD⟩, hbI, hlI, k1, k2, k3⟩ := hI
              have hxw : Nm.wf (r.c, r.s, r.f + (i : Int)) := ⟨wf64_of (org_lo g1).1, wf64_of (org_lo g1).2, wf64_of (show -9223372036854775808 ≤ r.f + (i : Int) ∧ r.f + (i : Int) ≤ 9223372036854775807 by omega)⟩
              have hroom := room i hrl.good HM.out (show M ≤ 1000 by omega)
              have hsum2 : IntKind.i64.wrap (r.f + (i : Int)) = r.f + (i : Int) := IntWalk.i64_in _ (by omega)
              have hbump := map_bump law_atom Try.underlying101 Try.underlying3 zero_int hD.own.drew (by have := hroom; simp only [maxLen]; omega) (key_at r.c r.s (r.f + (i : Int)) hxw.1 hxw.2.1 hxw.2.2)
              obtain ⟨c', v0, st, w5, hat, hwc, e1, e2, e3, hg5, hst⟩ := hbump
              have hold := hD.at_ _ hxw
              have hat' := hat.symm.trans hold
              simp only [DataW.lit.injEq, Lit.int.injEq, true_and] at hat'
              by_cases hmem : ((r.c, r.s, r.f + (i : Int)) : Nm) ∈ names (l.take kk) ++ (namesR r).take i
              · rw [if_pos hmem] at hat'
                subst hat'
                obtain ⟨w6, e4, ho6, hg6⟩ := hst 2 (by decide)
                clear hst hat hold
                have e4' : (Instr.entryStore 101 (.map (some w.heap.size)) (.int .i64 st) (.int .i64 (IntKind.i64.wrap 2))).run Try.prog w5 = .ok () w6 := e4
                obtain ⟨c2', f1, f2, _⟩ := ho6.lookup_int (Maps.Keyed.of_law law_atom) Try.underlying101 Try.underlying3 (zero_int _) (key_at r.c r.s (r.f + (i : Int)) hxw.1 hxw.2.1 hxw.2.2)
                have f2' := f2.symm.trans (Maps.atKey_put_same (hD.own.tidy (Maps.Keyed.of_law law_atom)).isMap (key_is (r.c, r.s, r.f + (i : Int))) _ _)
                simp only [DataW.lit.injEq, Lit.int.injEq, true_and] at f2'
                subst f2'
                have hb6 := hg6.block wo.heap.size hlI (by simp; omega)
                have m1 := (World.cell?_of_block (w := wr.drew) (a := ⟨wo.heap.size, 0, none⟩) hb6).trans k1
                have m2 := (World.cell?_of_block (w := wr.drew) (a := ⟨wo.heap.size, 1, none⟩) hb6).trans k2
                have m3 := (World.cell?_of_block (w := wr.drew) (a := ⟨wo.heap.size, 2, none⟩) hb6).trans k3
                have hbl6 : Below w.heap.size w w6 := hbI.drew.grown hg6 hbI.size (fun k hk => by cases hk; exact Nat.le_refl _)
                have hdup := Lib.hid (chk_dup (l := l) (k := kk + 1) (by rw [names_snoc hx.out]; exact dup_not HM.out hiM hmem))
                go_wp2
                go_region_with (fail)
                all_goals
                  go_wp2
                  go_ret
                  exact num_of hdup.out hbl6
              · rw [if_neg hmem] at hat'
                subst hat'
                obtain ⟨w6, e4, ho6, hg6⟩ := hst 1 (by decide)
                clear hst hat hold
                have e4' : (Instr.entryStore 101 (.map (some w.heap.size)) (.int .i64 st) (.int .i64 (IntKind.i64.wrap 1))).run Try.prog w5 = .ok () w6 := e4
                obtain ⟨c2', f1, f2, _⟩ := ho6.lookup_int (Maps.Keyed.of_law law_atom) Try.underlying101 Try.underlying3 (zero_int _) (key_at r.c r.s (r.f + (i : Int)) hxw.1 hxw.2.1 hxw.2.2)
                have f2' := f2.symm.trans (Maps.atKey_put_same (hD.own.tidy (Maps.Keyed.of_law law_atom)).isMap (key_is (r.c, r.s, r.f + (i : Int))) _ _)
                simp only [DataW.lit.injEq, Lit.int.injEq, true_and] at f2'
                subst f2'
                have hg6' : wr.grownBy w6 (some w.heap.size) := ⟨hg6.os, hg6.tape, hg6.output, hg6.size, hg6.block⟩
                have hmt := hD.put hxw hmem ho6
                have hst2 := HII.out.grown (i' := i + 1) hrl.lt hg6' ⟨_, by rw [namesR_take HM.out hiM, ← List.append_assoc]; exact hmt⟩
                have m1 := hst2.c1
                have m2 := hst2.c2
                have m3 := hst2.c3
                have HS := Lib.hid hst2
                clear hst2 hmt ho6 hD hmem
                go_wp2
                go_region_with (fail)
                all_goals
                  go_wp2
                  go_roundw
                  case rel => exact ⟨i + 1, by go_num, by omega, HS.out⟩
                  case measure => simp [intOf]; omega
            · have hiM2 : (namesR r).take i = namesR r := List.take_of_length_le (by rw [namesR_length, HM.out]; simp; omega)
              obtain ⟨⟨D, hD⟩, hbI, hlI, k1, k2, k3⟩ := hI
              rw [hiM2, ← names_snoc hx.out] at hD
              have hsz := hD.size
              have hgl := hrl.good
              have hnd := hD.nodup
              have hlen := hD.own.len Try.underlying101 3
              rw [hsz] at hlen
              have HDD := Lib.hid hD
              clear hD hsz
              by_cases hfew : (names (l.take (kk + 1))).length ≤ 1000
              · have hgood : Good (l.take (kk + 1)) := hrl.good.snoc hx.out ⟨g1, by rw [HM.out]; exact g2, g3, g4, by rw [HM.out]; exact g5⟩ HA.out (by rw [← names_snoc hx.out]; exact hnd) (by rw [← names_snoc hx.out]; exact hfew)
                have hst3 : ChkRel l w (kk + 1) wr := ⟨hgood, ⟨D, HDD.out⟩, hbI, Nat.lt_trans hrl.lt hlI⟩
                have HS := Lib.hid hst3
                clear hst3 hgood hgl hnd
                generalize (names (l.take (kk + 1))).length = T at *
                go_wp2
                go_roundw
                case rel => exact ⟨kk + 1, by omega, by rw [hkk]; go_num, HS.out⟩
                case measure => simp [intOf]; omega
              · have hch := Lib.hid (chk_many (l := l) (k := kk + 1) (by omega))
                clear hgl hnd
                generalize (names (l.take (kk + 1))).length = T at *
                go_wp2
                go_ret
                exact num_of hch.out hbI
        | succ m =>
          obtain ⟨ad', p', r', hA', hp', hbk', hx', s1, s2, s3, s4⟩ := run_at hr2 (show m < n by omega)
          obtain rfl : ad' = ad := by injection hA' with h; exact h.symm
          clear hA' hapart
          have hok' : OkRun r' := hrl.good.runs m r' (by rw [List.getElem?_take, if_pos (by omega)]; exact hx'.out)
          have hF := fun w => follows_any r' r w (hz r' (List.mem_of_getElem? hx'.out)) hok'.lo (by have := hok'.hi; omega)
          have q4 : decide ((0 : Int) < (m : Int) + 1) = true := decide_eq_true (by omega)
          cases hf : folB r' r with
          | true =>
            rw [hf] at hF
            have HF := Lib.hid hF
            have hch := Lib.hid (chk_fol (k := m) hx'.out (by rw [← hkk]; exact hx.out) hf)
            clear hF hf hok'
            refine wp_region_drew (by kernel_rfl) (by kernel_rfl) ?_
            go_wp2_with (first
            | (go_at_call 68; refine (HO.out _).mono ?_; rintro e w3 ⟨rfl, hb3⟩; obtain ⟨_, _, d1, d2, d3, d4⟩ := HC.out.drew.next hb3; have t1 := ((HC.out.drew.next hb3).1.cell (p := p') (by omega)).trans s1; have t2 := ((HC.out.drew.next hb3).1.cell (p := ⟨p'.block, p'.off + 1, none⟩) (by simp; omega)).trans s2; have t3 := ((HC.out.drew.next hb3).1.cell (p := ⟨p'.block, p'.off + 2, none⟩) (by simp; omega)).trans s3; have t4 := ((HC.out.drew.next hb3).1.cell (p := ⟨p'.block, p'.off + 3, none⟩) (by simp; omega)).trans s4)
            | (go_at_call 69; refine (HF.out _).mono ?_; rintro e w3' ⟨rfl, hb3'⟩))
            refine FinQ.intro (by kernel_rfl) ?_
            go_wp2
            go_ret
            exact num_of hch.out (((HC.out.drew.next hb3).next hb3').whole hrl.below)
          | false =>
            rw [hf] at hF
            have HF := Lib.hid hF
            have HA : Hid (∀ (i : Nat) (a : Rn), kk = i + 1 → l[i]? = some a → folB a r = false) := fun i a h1 h2 => by
              obtain rfl : i = m := by omega
              rw [hx'.out] at h2
              cases h2
              exact hf
            clear hF hf hok'
            refine wp_region_drew (by kernel_rfl) (by kernel_rfl) ?_
            go_wp2_with (first
            | (go_at_call 68; refine (HO.out _).mono ?_; rintro e w3 ⟨rfl, hb3⟩; obtain ⟨_, _, d1, d2, d3, d4⟩ := HC.out.drew.next hb3; have t1 := ((HC.out.drew.next hb3).1.cell (p := p') (by omega)).trans s1; have t2 := ((HC.out.drew.next hb3).1.cell (p := ⟨p'.block, p'.off + 1, none⟩) (by simp; omega)).trans s2; have t3 := ((HC.out.drew.next hb3).1.cell (p := ⟨p'.block, p'.off + 2, none⟩) (by simp; omega)).trans s3; have t4 := ((HC.out.drew.next hb3).1.cell (p := ⟨p'.block, p'.off + 3, none⟩) (by simp; omega)).trans s4)
            | (go_at_call 69; refine (HF.out _).mono ?_; rintro e w3' ⟨rfl, hb3'⟩))
            refine FinQ.intro (by kernel_rfl) ?_
            go_wp2
            have hb3 := hb3.trans (hb3'.mono hb3.size)
            clear t1 t2 t3 t4 s1 s2 s3 s4 hb3'
            have H3 := HC.out.drew.next hb3
            have hin : InRel l w wo.heap.size r kk 0 w3' := ⟨by obtain ⟨D, hD⟩ := hrl.met; exact ⟨D, by simpa using hD.kept (row := none) (only_of_below H3.1 none) (by simp)⟩, H3.whole hrl.below, H3.2.1, H3.2.2.1, H3.2.2.2.1, H3.2.2.2.2.1⟩
            have HI := Lib.hid hin
            have hr2 := Lib.hid hr2
            clear HC H3 d1 d2 d3 d4 c1 c2 c3 c4 p1 p2 p3 p4 hin hb3 hb2 HO HLn
            go_loopw [59] (fun j wr2 => ∃ i : Nat, j = .int .i64 i ∧ i ≤ M ∧ InRel l w wo.heap.size r kk i wr2) (fun j _ => M - (intOf j).toNat)
            case atStart => exact ⟨0, rfl, Nat.zero_le _, HI.out⟩
            case round =>
              obtain ⟨i, rfl, hi, hI⟩ := hrel
              by_cases hiM : i < M
              · have HII := Lib.hid hI
                obtain ⟨⟨D, hD⟩, hbI, hlI, k1, k2, k3⟩ := hI
                have hxw : Nm.wf (r.c, r.s, r.f + (i : Int)) := ⟨wf64_of (org_lo g1).1, wf64_of (org_lo g1).2, wf64_of (show -9223372036854775808 ≤ r.f + (i : Int) ∧ r.f + (i : Int) ≤ 9223372036854775807 by omega)⟩
                have hroom := room i hrl.good HM.out (show M ≤ 1000 by omega)
                have hsum2 : IntKind.i64.wrap (r.f + (i : Int)) = r.f + (i : Int) := IntWalk.i64_in _ (by omega)
                have hbump := map_bump law_atom Try.underlying101 Try.underlying3 zero_int hD.own.drew (by have := hroom; simp only [maxLen]; omega) (key_at r.c r.s (r.f + (i : Int)) hxw.1 hxw.2.1 hxw.2.2)
                obtain ⟨c', v0, st, w5, hat, hwc, e1, e2, e3, hg5, hst⟩ := hbump
                have hold := hD.at_ _ hxw
                have hat' := hat.symm.trans hold
                simp only [DataW.lit.injEq, Lit.int.injEq, true_and] at hat'
                by_cases hmem : ((r.c, r.s, r.f + (i : Int)) : Nm) ∈ names (l.take kk) ++ (namesR r).take i
                · rw [if_pos hmem] at hat'
                  subst hat'
                  obtain ⟨w6, e4, ho6, hg6⟩ := hst 2 (by decide)
                  clear hst hat hold
                  have e4' : (Instr.entryStore 101 (.map (some w.heap.size)) (.int .i64 st) (.int .i64 (IntKind.i64.wrap 2))).run Try.prog w5 = .ok () w6 := e4
                  obtain ⟨c2', f1, f2, _⟩ := ho6.lookup_int (Maps.Keyed.of_law law_atom) Try.underlying101 Try.underlying3 (zero_int _) (key_at r.c r.s (r.f + (i : Int)) hxw.1 hxw.2.1 hxw.2.2)
                  have f2' := f2.symm.trans (Maps.atKey_put_same (hD.own.tidy (Maps.Keyed.of_law law_atom)).isMap (key_is (r.c, r.s, r.f + (i : Int))) _ _)
                  simp only [DataW.lit.injEq, Lit.int.injEq, true_and] at f2'
                  subst f2'
                  have hb6 := hg6.block wo.heap.size hlI (by simp; omega)
                  have m1 := (World.cell?_of_block (w := wr.drew) (a := ⟨wo.heap.size, 0, none⟩) hb6).trans k1
                  have m2 := (World.cell?_of_block (w := wr.drew) (a := ⟨wo.heap.size, 1, none⟩) hb6).trans k2
                  have m3 := (World.cell?_of_block (w := wr.drew) (a := ⟨wo.heap.size, 2, none⟩) hb6).trans k3
                  have hbl6 : Below w.heap.size w w6 := hbI.drew.grown hg6 hbI.size (fun k hk => by cases hk; exact Nat.le_refl _)
                  have hdup := Lib.hid (chk_dup (l := l) (k := kk + 1) (by rw [names_snoc hx.out]; exact dup_not HM.out hiM hmem))
                  go_wp2
                  go_region_with (fail)
                  all_goals
                    go_wp2
                    go_ret
                    exact num_of hdup.out hbl6
                · rw [if_neg hmem] at hat'
                  subst hat'
                  obtain ⟨w6, e4, ho6, hg6⟩ := hst 1 (by decide)
                  clear hst hat hold
                  have e4' : (Instr.entryStore 101 (.map (some w.heap.size)) (.int .i64 st) (.int .i64 (IntKind.i64.wrap 1))).run Try.prog w5 = .ok () w6 := e4
                  obtain ⟨c2', f1, f2, _⟩ := ho6.lookup_int (Maps.Keyed.of_law law_atom) Try.underlying101 Try.underlying3 (zero_int _) (key_at r.c r.s (r.f + (i : Int)) hxw.1 hxw.2.1 hxw.2.2)
                  have f2' := f2.symm.trans (Maps.atKey_put_same (hD.own.tidy (Maps.Keyed.of_law law_atom)).isMap (key_is (r.c, r.s, r.f + (i : Int))) _ _)
                  simp only [DataW.lit.injEq, Lit.int.injEq, true_and] at f2'
                  subst f2'
                  have hg6' : wr.grownBy w6 (some w.heap.size) := ⟨hg6.os, hg6.tape, hg6.output, hg6.size, hg6.block⟩
                  have hmt := hD.put hxw hmem ho6
                  have hst2 := HII.out.grown (i' := i + 1) hrl.lt hg6' ⟨_, by rw [namesR_take HM.out hiM, ← List.append_assoc]; exact hmt⟩
                  have m1 := hst2.c1
                  have m2 := hst2.c2
                  have m3 := hst2.c3
                  have HS := Lib.hid hst2
                  clear hst2 hmt ho6 hD hmem
                  go_wp2
                  go_region_with (fail)
                  all_goals
                    go_wp2
                    go_roundw
                    case rel => exact ⟨i + 1, by go_num, by omega, HS.out⟩
                    case measure => simp [intOf]; omega
              · have hiM2 : (namesR r).take i = namesR r := List.take_of_length_le (by rw [namesR_length, HM.out]; simp; omega)
                obtain ⟨⟨D, hD⟩, hbI, hlI, k1, k2, k3⟩ := hI
                rw [hiM2, ← names_snoc hx.out] at hD
                have hsz := hD.size
                have hgl := hrl.good
                have hnd := hD.nodup
                have hlen := hD.own.len Try.underlying101 3
                rw [hsz] at hlen
                have HDD := Lib.hid hD
                clear hD hsz
                by_cases hfew : (names (l.take (kk + 1))).length ≤ 1000
                · have hgood : Good (l.take (kk + 1)) := hrl.good.snoc hx.out ⟨g1, by rw [HM.out]; exact g2, g3, g4, by rw [HM.out]; exact g5⟩ HA.out (by rw [← names_snoc hx.out]; exact hnd) (by rw [← names_snoc hx.out]; exact hfew)
                  have hst3 : ChkRel l w (kk + 1) wr := ⟨hgood, ⟨D, HDD.out⟩, hbI, Nat.lt_trans hrl.lt hlI⟩
                  have HS := Lib.hid hst3
                  clear hst3 hgood hgl hnd
                  generalize (names (l.take (kk + 1))).length = T at *
                  go_wp2
                  go_roundw
                  case rel => exact ⟨kk + 1, by omega, by rw [hkk]; go_num, HS.out⟩
                  case measure => simp [intOf]; omega
                · have hch := Lib.hid (chk_many (l := l) (k := kk + 1) (by omega))
                  clear hgl hnd
                  generalize (names (l.take (kk + 1))).length = T at *
                  go_wp2
                  go_ret
                  exact num_of hch.out hbI
    · have hkn : n ≤ k := by omega
      have hg := hrl.good
      rw [List.take_of_length_le (by rw [HL.out]; omega)] at hg
      have hch := chk_good hg
      have hbb := hrl.below
      go_wp2
      go_ret
      exact num_of hch hbb
end Go.Proofs.Ytdhpbfmamkndjaa.Doc
