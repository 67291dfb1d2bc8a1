/- Contract: oxbowref12.Atoms: the walk. -/
import Derived.Test.YtdhpbfmamkndjaaDocI
import Derived.Test.YtdhpbfmamkndjaaBaseD
namespace Go.Proofs.Ytdhpbfmamkndjaa.Doc
open Go.RowKit Ox
set_option linter.unusedVariables false
set_option linter.unusedSimpArgs false
theorem rpts_any (r : Rn) (w : World) (hz : r.t.size ≤ 10000000000000) : Calls Try.prog 76 #[.string r.t] w fun e w' => Below w.heap.size w w' ∧ ∃ v b, e = .returned (.tuple #[v, .bool b]) ∧ w'.ownsRow w.heap.size 3 1 v (ptsL r).length (Text.ints (ptsL r)) := by
  have h := Text.rpoints_any r.t w hz
  refine h.mono ?_
  unfold ptsL
  cases hp : pts r.t.data.toList with
  | none => rintro e w' ⟨hb, rfl⟩; exact ⟨hb, _, _, rfl, World.ownsRow_nil _ _ _ _⟩
  | some l => rintro e w' ⟨hb, v, rfl, ho⟩; exact ⟨hb, _, _, rfl, ho⟩
structure AtmRel (l : List Rn) (w : World) (k : Nat) (v : Value) (wr : World) : Prop where
  own : OwnA wr w.heap.size v (atoms (l.take k))
  below : Below w.heap.size w wr
/-- inside: the numbers vp are read, the row v grows -/
structure AtmIn (l : List Rn) (w : World) (B : Nat) (r : Rn) (vp : Value) (k i : Nat) (v : Value) (wr : World) : Prop where
  own : wr.ownsRow w.heap.size 59 4 v ((atoms (l.take k)).length + i) (atRows (atoms (l.take k) ++ (atomsR r).take i))
  below : Below w.heap.size w wr
  nums : wr.ownsRow B 3 1 vp (ptsL r).length (Text.ints (ptsL r))
  apart : ∀ g, v.ownBlock = some g → vp.ownBlock ≠ some g
set_option maxRecDepth 100000 in
set_option maxHeartbeats 4000000 in
theorem atoms_any (A : Option Addr) (n c B : Nat) (l : List Rn) (w : World) (hr : Reads w B 4 A n (rows l)) (hB : B ≤ w.heap.size) (hn : n ≤ 100000000000) (hz : ∀ r ∈ l, r.t.size ≤ 10000000000000)
    (hf : ∀ r ∈ l, -1000000000000000 ≤ r.f ∧ r.f ≤ 1000000000000000) (hcnt : (atoms l).length ≤ 100000000000) :
    Calls Try.prog 43 #[.slice A n c] w fun e w' => ∃ v, e = .returned v ∧ OwnA w' w.heap.size v (atoms l) ∧ Below w.heap.size w w' := by
  have HL := Lib.hid (rows_len hr)
  go_enter Try.func43, Try.ntmps43
  go_wp2
  go_loopw [3, 4] (fun v i wr => ∃ k : Nat, k ≤ n ∧ i = .int .i64 k ∧ AtmRel l w k v wr) (fun _ i _ => n - (intOf i).toNat)
  case atStart => exact ⟨0, Nat.zero_le _, rfl, World.ownsRow_nil _ _ _ _, Below.refl _ _⟩
  case round =>
    obtain ⟨wo, hwo⟩ : ∃ wo, wo = wr := ⟨_, rfl⟩
    subst hwo
    obtain ⟨k, hk, rfl, hrl⟩ := hrel
    by_cases hlt : k < n
    · have hr2 := (hr.more hB).below hrl.below
      obtain ⟨ad, p, r, rfl, hp, hbk, hx, p1, p2, p3, p4⟩ := run_at hr2 hlt
      have hP := fun w => rpts_any r w (hz r (List.mem_of_getElem? hx.out))
      have HP := Lib.hid hP
      clear hP
      go_wp2_with (go_at_call 76; refine (HP.out _).mono ?_; rintro e w2 ⟨hb2, vp, bp, rfl, ho2⟩; obtain ⟨Ap, cp, rfl, hnc, hcm, _, _⟩ := own_slice ho2)
      have hlt2 := hrl.own.lt
      have hin : AtmIn l w wo.heap.size r (.slice Ap (ptsL r).length cp) k 0 _ w2 := ⟨by simpa using own_below hrl.own hb2, below_next hrl.below hb2 hrl.below.size, ho2, fun g hg h => by have := (hlt2 g hg).2; have := (ho2.lt g h).1; omega⟩
      have HI := Lib.hid hin
      have hcl : (atoms (l.take k)).length + (ptsL r).length ≤ 100000000000 := by
        have h1 : (atoms (l.take (k + 1))).length ≤ (atoms l).length := by
          conv => rhs; rw [← List.take_append_drop (k + 1) l, atoms_append]
          simp
        rw [atoms_snoc hx.out, List.length_append, atomsR_length] at h1
        omega
      have hfr := hf r (List.mem_of_getElem? hx.out)
      clear hin hlt2
      go_loopw [3, 7] (fun v j wr => ∃ i : Nat, i ≤ (ptsL r).length ∧ j = .int .i64 i ∧ AtmIn l w wo.heap.size r (.slice Ap (ptsL r).length cp) k i v wr) (fun _ j _ => (ptsL r).length - (intOf j).toNat)
      case atStart => exact ⟨0, Nat.zero_le _, rfl, HI.out⟩
      case round =>
        obtain ⟨i, hi, rfl, hI⟩ := hrel
        by_cases hiN : i < (ptsL r).length
        · obtain ⟨ad2, x, rfl, hbk2, hxi, hci⟩ := Text.int_at (Reads.of_own hI.nums) hiN
          have t1 := (hI.below.cell (p := p) hbk).trans ((hrl.below.cell (p := p) hbk).symm.trans p1)
          have t2 := (hI.below.cell (p := ⟨p.block, p.off + 1, none⟩) hbk).trans ((hrl.below.cell (p := ⟨p.block, p.off + 1, none⟩) hbk).symm.trans p2)
          have t3 := (hI.below.cell (p := ⟨p.block, p.off + 2, none⟩) hbk).trans ((hrl.below.cell (p := ⟨p.block, p.off + 2, none⟩) hbk).symm.trans p3)
          have hbs := hI.below.size
          have hsum : IntKind.i64.wrap (r.f + (i : Int)) = r.f + (i : Int) := IntWalk.i64_in _ (by omega)
          clear p1 p2 p3 p4
          go_wp2
          refine wp_region_drew (by kernel_rfl) (by kernel_rfl) ?_
          go_wp2_with (at_builtin; refine wpList_pushAt (.tmp 29) (.tmp 47) 54 59 4 32 [.int .i64 r.c, .int .i64 r.s, .int .i64 (r.f + (i : Int)), .int .i64 x] rfl rfl Try.underlying54 info_atm rfl (by decide) rfl rfl (World.ownsRow.drew hI.own) hI.below.drew (Nat.le_refl _) hbs rfl (by simp [Value.oneCell']) (by omega) (by omega) ?_)
          intro v1 w1 ho1 hb1 hl1 hg1 hloc
          have hst : AtmIn l w wo.heap.size r (.slice (some ad2) (ptsL r).length cp) k (i + 1) v1 w1 := by
            refine ⟨?_, hb1, ?_, ?_⟩
            · rw [atomsR_take hxi.out, ← List.append_assoc, atRows_append]
              simpa [atRows, At.row, Nat.add_assoc] using ho1
            · refine World.ownsRow.kept (w := _) (World.ownsRow.drew hI.nums) hg1 (.inr fun e => ?_)
              exact hI.apart _ e.symm rfl
            · intro g hg h
              rcases hloc g hg with h2 | h2
              · exact hI.apart g h2 h
              · have := (hI.nums.lt g h).2
                have h3 : wr.heap.size ≤ g := h2
                omega
          have HS := Lib.hid hst
          clear hst
          go_wp2
          refine FinQ.intro (by kernel_rfl) ?_
          go_wp2
          go_roundw
          case rel => exact ⟨i + 1, by omega, by go_num, HS.out⟩
          case measure => simp [intOf]; omega
        · have hst : AtmRel l w (k + 1) _ wr := ⟨by
            unfold OwnA
            rw [atoms_snoc hx.out, List.length_append, atomsR_length]
            have h := hI.own
            have e1 : (atomsR r).take i = atomsR r := List.take_of_length_le (by rw [atomsR_length]; omega)
            have e2 : i = (ptsL r).length := by omega
            rw [e1, e2] at h
            exact h, hI.below⟩
          have HS := Lib.hid hst
          clear hst
          go_wp2
          go_roundw
          case rel => exact ⟨k + 1, by omega, by go_num, HS.out⟩
          case measure => simp [intOf]; omega
    · have hkk : atoms (l.take k) = atoms l := by rw [List.take_of_length_le (by rw [HL.out]; omega)]
      have ho := hrl.own
      rw [hkk] at ho
      have HO := Lib.hid ho
      have hbb := hrl.below
      go_wp2
      go_ret
      exact ⟨_, rfl, HO.out, hbb⟩
end Go.Proofs.Ytdhpbfmamkndjaa.Doc
