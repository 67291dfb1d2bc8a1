/- Contract: doc.add. -/
import Derived.Test.YtdhpbfmamkndjaaDocS
namespace Go.Proofs.Ytdhpbfmamkndjaa.Doc
open Go.RowKit Ox
set_option linter.unusedVariables false
set_option linter.unusedSimpArgs false
theorem grown_trans {a b c : World} {row row2 : Option Nat} (h1 : a.grownBy b row) (h2 : b.grownBy c row2) (hr : ∀ g, row2 = some g → row = some g ∨ a.heap.size ≤ g) : a.grownBy c row :=
  ⟨h2.os.trans h1.os, h2.tape.trans h1.tape, h2.output.trans h1.output, Nat.le_trans h1.size h2.size, fun i hi hne =>
    (h2.block i (Nat.lt_of_lt_of_le hi h1.size) (fun e => by
      rcases hr i e.symm with h | h
      · exact hne h.symm
      · omega)).trans (h1.block i hi hne)⟩
/-- one row of the call's own has grown, from v to v', all else is as it was -/
def Grow (w : World) (v : Value) (w' : World) (v' : Value) : Prop := w.grownBy w' v.ownBlock ∧ ∀ g, v'.ownBlock = some g → v.ownBlock = some g ∨ w.heap.size ≤ g
theorem Grow.of_below {w w' : World} (v : Value) (h : Below w.heap.size w w') : Grow w v w' v := ⟨only_of_below h _, fun g hg => .inl hg⟩
theorem Grow.trans {w w1 w2 : World} {v v1 v2 : Value} (h : Grow w v w1 v1) (h2 : Grow w1 v1 w2 v2) : Grow w v w2 v2 :=
  ⟨grown_trans h.1 h2.1 h.2, fun g hg => by
    rcases h2.2 g hg with h3 | h3
    · exact h.2 g h3
    · exact .inr (Nat.le_trans h.1.size h3)⟩
theorem Grow.below {w0 w w' : World} {v v' : Value} {B : Nat} (h : Grow w v w' v') (hb : Below B w0 w) (hB : B ≤ w.heap.size) (hv : ∀ g, v.ownBlock = some g → B ≤ g) : Below B w0 w' := hb.grown h.1 hB hv
/-- doc.add: a run behind others -/
def addD (R : List Rn) (r : Rn) : List Rn := if r.t.toList = [] then R else addR R r
def AddRes (w : World) (B : Nat) (v : Value) (R : List Rn) (e : Ending) (w' : World) : Prop := ∃ v', e = .returned v' ∧ OwnR w' B v' R ∧ Grow w v w' v'
theorem rows_snoc (l : List Rn) (q : Rn) : rows (l ++ [q]) = rows l ++ q.row := by rw [rows_append]; simp [rows]
set_option maxRecDepth 100000 in
set_option maxHeartbeats 4000000 in
theorem add_any (v : Value) (B : Nat) (R : List Rn) (r : Rn) (w : World) (ho : OwnR w B v R) (hB : B ≤ w.heap.size) (hn : R.length ≤ 100000000000) (hR : ∀ q ∈ R, q.t.size ≤ 1000000000000 ∧ 0 ≤ q.f ∧ q.f ≤ 1000000000000000) (hr : r.t.size ≤ 1000000000000) :
    Calls Try.prog 73 #[v, r.val] w (AddRes w B v (addD R r)) := by
  have hb0 := (Below.refl w.heap.size w).alloc (Nat.le_refl _) (.cells #[.int .i64 r.c, .int .i64 r.s, .int .i64 r.f, .string r.t] 37)
  by_cases he : r.t.toList = []
  · have he' : (!r.t.toList.isEmpty) = false := by simp [he]
    have hd : addD R r = R := by unfold addD; rw [if_pos he]
    rw [hd]
    have HO := Lib.hid ho
    clear hd ho
    unfold Rn.val
    go_enter Try.func73, Try.ntmps73
    go_wp2
    go_ret
    exact ⟨_, rfl, own_below HO.out hb0, Grow.of_below _ hb0⟩
  · have he' : r.t.toList.isEmpty = false := by simp [he]
    have hd : addD R r = addR R r := by unfold addD; rw [if_neg he]
    rw [hd]
    clear hd
    have hnew : ∀ w1, Below w.heap.size w w1 → ∀ v' w', w'.ownsRow B 37 4 v' (R.length + 1) (rows R ++ r.row) → w1.grownBy w' v.ownBlock → (∀ g, v'.ownBlock = some g → v.ownBlock = some g ∨ w1.heap.size ≤ g) → OwnR w' B v' (R ++ [r]) ∧ Grow w v w' v' := fun w1 h1 v' w' h2 h3 h4 => by
      refine ⟨?_, (Grow.of_below v h1).trans ⟨h3, h4⟩⟩
      unfold OwnR
      rw [List.length_append, List.length_singleton, rows_snoc]
      exact h2
    have HNEW := Lib.hid hnew
    clear hnew
    rcases nil_or_snoc R with rfl | ⟨R0, q, rfl⟩
    · rw [addR_nil]
      obtain ⟨A1, c1, rfl, hnc, hcm, hx1, hx2⟩ := own_slice ho
      have ho2 := World.ownsRow.drew (own_below ho hb0)
      change World.ownsRow _ B 37 4 (.slice A1 0 c1) 0 [] at ho2
      have hcur := (Cur.start w r 37).drew
      clear ho hR hx1 hx2
      unfold Rn.val
      go_enter Try.func73, Try.ntmps73
      go_wp2
      refine wp_region_drew (by kernel_rfl) (by kernel_rfl) ?_
      go_wp2
      refine FinQ.intro (by kernel_rfl) ?_
      generalize (w.alloc (.cells #[.int .i64 r.c, .int .i64 r.s, .int .i64 r.f, .string r.t] 37)).drew = w1 at ho2 hcur ⊢
      obtain ⟨hWB, hw1, k1, k2, k3, k4⟩ := hcur
      have hBs : B ≤ w1.heap.size := by omega
      have HO := Lib.hid ho2
      clear ho2
      go_wp2_with (at_builtin; refine wpList_pushAt (.tmp 35) (.tmp 37) 30 37 4 40 [.int .i64 r.c, .int .i64 r.s, .int .i64 r.f, .string r.t] rfl rfl Try.underlying30 info_run rfl (by decide) rfl rfl HO.out (Below.refl B _) (Nat.le_refl B) hBs rfl (by simp [Value.oneCell']) (by omega) (by omega) ?_)
      intro v1 w5 ho1 _ hl1 hg1 hloc
      have hfin := HNEW.out _ hWB v1 w5 (by simpa [Rn.row, rows] using ho1) hg1 hloc
      have HFIN := Lib.hid hfin
      clear hfin ho1 hg1 hloc
      go_wp2
      go_ret
      exact ⟨_, rfl, HFIN.out.1, HFIN.out.2⟩
    · have hq := hR q (by simp)
      have hlen : R0.length + 1 ≤ 100000000000 := by simpa using hn
      have hF := fun w => follows_any q r w (Nat.le_trans hq.1 (by omega)) hq.2.1 hq.2.2
      have hlast := last_run ho
      obtain ⟨g, cap, rfl, u1, u2, u3, u4, d1, d2, d3, d4, d5, hset⟩ := hlast
      have hcur := (Cur.start w r 37).drew
      have hq1 := hq.1
      cases hf : folB q r with
      | true =>
        rw [hf] at hF
        have HF := Lib.hid hF
        have hadd := Lib.hid (addR_fol (R := R0) hf)
        have HO := Lib.hid ho
        clear ho hR hset hF hf
        unfold Rn.val
        go_enter Try.func73, Try.ntmps73
        go_wp2
        refine wp_region_drew (by kernel_rfl) (by kernel_rfl) ?_
        go_wp2_with (go_at_call 69; refine (HF.out _).mono ?_; rintro e w3 ⟨rfl, hb3⟩)
        have hcur3 := hcur.next hb3
        obtain ⟨hWB, hw1, k1, k2, k3, k4⟩ := hcur3
        have how := own_below (World.ownsRow.drew (own_below HO.out hb0)) hb3
        obtain ⟨g', cap', hv, _, _, _, y4, e1, e2, e3, e4, e5, hset⟩ := last_run how
        simp only [Value.slice.injEq, Option.some.injEq, Addr.mk.injEq, and_true, true_and] at hv
        obtain ⟨rfl, rfl⟩ := hv
        have hsum : q.t.size + r.t.size ≤ 2000000000000 := by omega
        have hfin : OwnR (w3.drew.setCell ⟨g, R0.length * 4 + 3, none⟩ (.string (q.t ++ r.t))) B (.slice (some ⟨g, 0, none⟩) (R0.length + 1) cap) (addR (R0 ++ [q]) r) ∧ Grow w (.slice (some ⟨g, 0, none⟩) (R0.length + 1) cap) (w3.drew.setCell ⟨g, R0.length * 4 + 3, none⟩ (.string (q.t ++ r.t))) (.slice (some ⟨g, 0, none⟩) (R0.length + 1) cap) := by
          rw [hadd.out]
          obtain ⟨s1, s2⟩ := hset (q.t ++ r.t)
          refine ⟨s1, (Grow.of_below _ hWB).trans ⟨?_, fun g h => .inl h⟩⟩
          exact ⟨s2.os, s2.tape, s2.output, s2.size, s2.block⟩
        have HFIN := Lib.hid hfin
        clear hfin hset how d1 d2 d3 d4 d5 HNEW
        refine FinQ.intro (by kernel_rfl) ?_
        go_wp2
        refine wp_region_drew (by kernel_rfl) (by kernel_rfl) ?_
        go_wp2
        refine FinQ.intro (by kernel_rfl) ?_
        go_wp2
        go_ret
        exact ⟨_, rfl, HFIN.out.1, HFIN.out.2⟩
      | false =>
        rw [hf] at hF
        have HF := Lib.hid hF
        have hadd := addR_new (R := R0) hf
        rw [hadd]
        have HO := Lib.hid ho
        clear ho hR hset hF hf hadd
        unfold Rn.val
        go_enter Try.func73, Try.ntmps73
        go_wp2
        refine wp_region_drew (by kernel_rfl) (by kernel_rfl) ?_
        go_wp2_with (go_at_call 69; refine (HF.out _).mono ?_; rintro e w3 ⟨rfl, hb3⟩)
        have hcur3 := hcur.next hb3
        obtain ⟨hWB, hw1, k1, k2, k3, k4⟩ := hcur3
        have how := own_below (World.ownsRow.drew (own_below HO.out hb0)) hb3
        have HO := Lib.hid how
        clear how
        have hBs : B ≤ w3.heap.size := by omega
        refine FinQ.intro (by kernel_rfl) ?_
        go_wp2_with (at_builtin; refine wpList_pushAt (.tmp 35) (.tmp 37) 30 37 4 40 [.int .i64 r.c, .int .i64 r.s, .int .i64 r.f, .string r.t] rfl rfl Try.underlying30 info_run rfl (by decide) rfl rfl HO.out (Below.refl B _) (Nat.le_refl B) hBs rfl (by simp [Value.oneCell']) (by simp; omega) (by simp; omega) ?_)
        intro v1 w5 ho1 _ hl1 hg1 hloc
        have hfin := HNEW.out _ hWB v1 w5 (by simpa [Rn.row] using ho1) hg1 hloc
        have HFIN := Lib.hid hfin
        clear hfin ho1 hg1 hloc
        go_wp2
        go_ret
        exact ⟨_, rfl, HFIN.out.1, HFIN.out.2⟩
end Go.Proofs.Ytdhpbfmamkndjaa.Doc
