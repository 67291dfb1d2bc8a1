/- Contract: oxbowref12.Runs. -/
import Derived.Test.YtdhpbfmamkndjaaDocR
namespace Go.Proofs.Ytdhpbfmamkndjaa.Doc
open Go.RowKit Ox
set_option linter.unusedVariables false
set_option linter.unusedSimpArgs false
theorem bytesOf_snoc (l : List Rn) (r : Rn) : bytesOf (l ++ [r]) = bytesOf l ++ r.t.data.toList := by rw [bytesOf_append]; simp [bytesOf]
theorem runs_bytes (a : List At) : bytesOf (runsOf a) = a.flatMap (fun x => encP x.p) ∧ (a ≠ [] → runsOf a ≠ []) := by
  refine snoc_ind (P := fun a => bytesOf (runsOf a) = a.flatMap (fun x => encP x.p) ∧ (a ≠ [] → runsOf a ≠ [])) ⟨rfl, fun h => absurd rfl h⟩ (fun l x ih => ?_) a
  obtain ⟨h1, h2⟩ := ih
  rw [runs_snoc]
  unfold addA
  have hnew : bytesOf (runsOf l ++ [one x]) = (l ++ [x]).flatMap (fun x => encP x.p) := by
    rw [bytesOf_snoc, h1, List.flatMap_append]
    simp [one]
  cases hl : l.getLast? with
  | none => exact ⟨hnew, fun _ => by simp⟩
  | some p =>
    simp only
    by_cases hg : glue p x = true
    · rw [if_pos hg]
      have hne : l ≠ [] := by rintro rfl; simp at hl
      rcases nil_or_snoc (runsOf l) with h3 | ⟨R0, q, h3⟩
      · exact absurd h3 (h2 hne)
      · rw [h3] at h1 ⊢
        rw [appLast_snoc]
        refine ⟨?_, fun _ => by simp⟩
        rw [bytesOf_snoc] at h1 ⊢
        rw [List.flatMap_append, ← h1]
        simp [Rn.more]
    · rw [if_neg hg]
      exact ⟨hnew, fun _ => by simp⟩
theorem encP_le (p : Int) : (encP p).length ≤ 4 := by
  unfold encP
  split
  · have h1 := enc_length p
    have h2 := psz_bd p
    omega
  · simp
theorem flat_le (a : List At) : (a.flatMap (fun x => encP x.p)).length ≤ 4 * a.length := by
  induction a with
  | nil => simp
  | cons x a ih => have := encP_le x.p; simp only [List.flatMap_cons, List.length_append, List.length_cons]; omega
theorem runs_len_le (a : List At) : (runsOf a).length ≤ a.length := by
  refine snoc_ind (P := fun a => (runsOf a).length ≤ a.length) (by simp [runs_nil]) (fun l x ih => ?_) a
  rw [runs_snoc]
  unfold addA
  have h3 : (appLast (runsOf l) ⟨(encP x.p).toArray⟩).length ≤ (runsOf l).length := by
    rcases nil_or_snoc (runsOf l) with h3 | ⟨R0, q, h3⟩
    · rw [h3]; simp [appLast]
    · rw [h3, appLast_snoc]; simp
  split
  · split <;> simp <;> omega
  · simp; omega
theorem last_text_le {a : List At} {R0 : List Rn} {q : Rn} (h : runsOf a = R0 ++ [q]) : q.t.size ≤ 4 * a.length := by
  have h1 := (runs_bytes a).1
  have h2 := flat_le a
  rw [← h1, h, bytesOf_snoc, List.length_append] at h2
  have : q.t.data.toList.length = q.t.size := by simp
  omega
/-- the last run of a row of the call's own: its cells, and a store into its text -/
theorem last_run {w : World} {B : Nat} {v : Value} {l0 : List Rn} {q : Rn} (h : OwnR w B v (l0 ++ [q])) : ∃ g cap, v = .slice (some ⟨g, 0, none⟩) (l0.length + 1) cap ∧ l0.length + 1 ≤ cap ∧ cap ≤ maxLen ∧ B ≤ g ∧ g < w.heap.size ∧
    w.cell? ⟨g, l0.length * 4, none⟩ = some (.int .i64 q.c) ∧ w.cell? ⟨g, l0.length * 4 + 1, none⟩ = some (.int .i64 q.s) ∧ w.cell? ⟨g, l0.length * 4 + 2, none⟩ = some (.int .i64 q.f) ∧ w.cell? ⟨g, l0.length * 4 + 3, none⟩ = some (.string q.t) ∧ w.frozen? ⟨g, l0.length * 4 + 3, none⟩ = false ∧
    ∀ t, OwnR (w.setCell ⟨g, l0.length * 4 + 3, none⟩ (.string t)) B v (l0 ++ [⟨q.c, q.s, q.f, t⟩]) ∧ w.grownBy (w.setCell ⟨g, l0.length * 4 + 3, none⟩ (.string t)) v.ownBlock := by
  unfold OwnR at h
  rw [List.length_append, List.length_singleton] at h
  have h0 := h
  rcases h.2 with ⟨_, hn⟩ | ⟨g, cap, cur, rfl, hb, hg, hnc, hcm, hcs, htk⟩
  · omega
  · have hlt := (h0.lt g rfl).2
    have hget : ∀ j, j < 4 → (rows (l0 ++ [q]))[l0.length * 4 + j]? = q.row[j]? := fun j hj => rows_get (l := l0 ++ [q]) (by simp) j hj
    refine ⟨g, cap, rfl, hnc, hcm, hb, hlt, ?_, ?_, ?_, ?_, h0.frozenAt _, fun t => ?_⟩
    · rw [h0.cellAt _ (by omega)]; exact hget 0 (by omega)
    · rw [h0.cellAt _ (by omega)]; exact hget 1 (by omega)
    · rw [h0.cellAt _ (by omega)]; exact hget 2 (by omega)
    · rw [h0.cellAt _ (by omega)]; exact hget 3 (by omega)
    · obtain ⟨h1, h2⟩ := h0.stored (l0.length * 4 + 3) (.string t)
      refine ⟨?_, h2⟩
      unfold OwnR
      rw [List.length_append, List.length_singleton]
      have e : (rows (l0 ++ [q])).set (l0.length * 4 + 3) (.string t) = rows (l0 ++ [⟨q.c, q.s, q.f, t⟩]) := by
        have e1 : ∀ r : Rn, rows (l0 ++ [r]) = rows l0 ++ r.row := fun r => by rw [rows_append]; simp [rows]
        rw [e1, e1, List.set_append_right _ _ (by rw [rows_length]; omega), rows_length]
        rw [show l0.length * 4 + 3 - 4 * l0.length = 3 by omega]
        rfl
      rw [← e]
      exact h1
theorem ints_new {w : World} {e : TypeId} {l : List Int} {cs : List Value} {n : Nat} (h : Text.ints l = cs) (hn : l.length = n) : Reads (w.alloc (.cells cs.toArray e)) (w.heap.size + 1) 1 (some ⟨w.heap.size, 0, none⟩) n (Text.ints l) := by
  subst h
  refine ⟨by rw [Text.ints_length]; omega, fun _ => ⟨_, rfl, by simp, fun j u hu => ?_⟩⟩
  rw [Addr.add_lit, Nat.zero_add, cell_of_row _ _ _ _ _ _ (heap_alloc_new w _)]
  simpa using hu
theorem rtext_one (p : Int) (w : World) : Calls Try.prog 101 #[.slice (some ⟨w.heap.size, 0, none⟩) 1 1] (w.alloc (.cells #[.int .i64 p] 3)) fun e w' => ∃ b, e = .returned (.tuple #[.string ⟨(encP p).toArray⟩, .bool b]) ∧ Below w.heap.size w w' := by
  refine (Text.rtext_any (some ⟨w.heap.size, 0, none⟩) 1 1 (w.heap.size + 1) [p] _ (ints_new (l := [p]) rfl rfl) (by simp) (by decide)).mono ?_
  unfold Text.textOf Text.Txt encP
  intro e w' h
  by_cases hp : isPt p = true
  · simp only [List.all_cons, List.all_nil, hp, Bool.and_true, if_true] at h ⊢
    obtain ⟨h1, h2⟩ := h
    have h1' : Below w.heap.size w w' := ((Below.refl _ w).alloc (Nat.le_refl _) _).trans (h1.mono (by simp))
    exact ⟨true, by rw [h2]; simp [txt], h1'⟩
  · have hp' : isPt p = false := by simpa using hp
    simp only [List.all_cons, List.all_nil, hp', Bool.false_and, if_false, Bool.false_eq_true] at h ⊢
    obtain ⟨h1, h2⟩ := h
    have h1' : Below w.heap.size w w' := ((Below.refl _ w).alloc (Nat.le_refl _) _).trans (h1.mono (by simp))
    exact ⟨false, h2, h1'⟩
structure RunRel (l : List At) (w : World) (k : Nat) (v : Value) (wr : World) : Prop where
  own : OwnR wr w.heap.size v (runsOf (l.take k))
  below : Below w.heap.size w wr
theorem glue_parts (a b : At) : (glue a b = false ∧ ¬ a.c = b.c) ∨ (glue a b = false ∧ a.c = b.c ∧ ¬ a.s = b.s) ∨ (glue a b = (a.n + 1 == b.n) ∧ a.c = b.c ∧ a.s = b.s) := by
  by_cases h1 : a.c = b.c <;> by_cases h2 : a.s = b.s <;> by_cases h3 : a.n + 1 = b.n <;> simp [glue, h1, h2, h3]
theorem runs_new {l : List At} {k : Nat} {x : At} (hx : l[k]? = some x) (h : ∀ (m : Nat) (a : At), k = m + 1 → l[m]? = some a → glue a x = false) : runsOf (l.take (k + 1)) = runsOf (l.take k) ++ [one x] := by
  rw [take_snoc hx, runs_snoc]
  unfold addA
  cases k with
  | zero => simp
  | succ m =>
    have hm : m < l.length := by have := (List.getElem?_eq_some_iff.1 hx).1; omega
    have e : (l.take (m + 1)).getLast? = some l[m] := by rw [List.getLast?_eq_getElem?, List.length_take, Nat.min_eq_left (by omega), List.getElem?_take]; simp [hm]
    rw [e]
    simp only
    rw [if_neg (by rw [h m _ rfl (List.getElem?_eq_getElem hm)]; simp)]
theorem runs_more {l : List At} {m : Nat} {x a : At} (hx : l[m + 1]? = some x) (ha : l[m]? = some a) (h : glue a x = true) : ∃ R0 q, runsOf (l.take (m + 1)) = R0 ++ [q] ∧ runsOf (l.take (m + 1 + 1)) = R0 ++ [q.more ⟨(encP x.p).toArray⟩] := by
  have hne := (runs_bytes (l.take (m + 1))).2 (by rw [take_snoc ha]; simp)
  rcases nil_or_snoc (runsOf (l.take (m + 1))) with h3 | ⟨R0, q, h3⟩
  · exact absurd h3 hne
  · refine ⟨R0, q, h3, ?_⟩
    rw [take_snoc hx, runs_snoc]
    unfold addA
    rw [take_snoc ha, List.getLast?_append]
    simp only [List.getLast?_singleton, Option.some_or]
    rw [if_pos h, ← take_snoc ha, h3, appLast_snoc]
set_option maxRecDepth 100000 in
set_option maxHeartbeats 4000000 in
theorem runs_any (A : Option Addr) (n c B : Nat) (l : List At) (w : World) (hr : Reads w B 4 A n (atRows l)) (hB : B ≤ w.heap.size) (hn : n ≤ 100000000000) (hf : ∀ x ∈ l, -1000000000000000 ≤ x.n ∧ x.n ≤ 1000000000000000) :
    Calls Try.prog 77 #[.slice A n c] w fun e w' => ∃ v, e = .returned v ∧ OwnR w' w.heap.size v (runsOf l) ∧ Below w.heap.size w w' := by
  have HL := Lib.hid (atRows_len hr)
  have HF := Lib.hid hf
  clear hf
  go_enter Try.func77, Try.ntmps77
  go_wp2
  go_loopw [3, 4] (fun v i wr => ∃ k : Nat, k ≤ n ∧ i = .int .i64 k ∧ RunRel l w k v wr) (fun _ i _ => n - (intOf i).toNat)
  case atStart => exact ⟨0, Nat.zero_le _, rfl, World.ownsRow_nil _ _ _ _, Below.refl _ _⟩
  case round =>
    obtain ⟨wo, hwo⟩ : ∃ wo, wo = wr := ⟨_, rfl⟩
    subst hwo
    obtain ⟨k, hk, rfl, hrl⟩ := hrel
    by_cases hlt : k < n
    · obtain ⟨ad, p, x, rfl, hp, hbk, hx, p1, p2, p3, p4⟩ := atom_at ((hr.more hB).below hrl.below) hlt
      have hbw : p.block < wo.heap.size := Nat.lt_of_lt_of_le hbk hrl.below.size
      have hxf := HF.out x (List.mem_of_getElem? hx.out)
      have hbs := hrl.below.size
      have hrlen : (runsOf (l.take k)).length ≤ k := Nat.le_trans (runs_len_le _) (by simp; omega)
      go_wp2_with (go_at_call 101; refine (rtext_one x.p _).mono ?_; rintro e w2 ⟨bt, rfl, hb2⟩; have c1 := (hb2.cell (p := p) hbw).trans p1; have c2 := (hb2.cell (p := ⟨p.block, p.off + 1, none⟩) hbw).trans p2; have c3 := (hb2.cell (p := ⟨p.block, p.off + 2, none⟩) hbw).trans p3)
      have how := own_below hrl.own hb2
      have hbb := below_next hrl.below hb2 hbs
      have hbs2 := hbb.size
      clear p1 p2 p3 p4
      cases k with
      | zero =>
        have HNEW := Lib.hid (runs_new hx.out (fun m a h _ => by omega))
        go_quiet (fail)
        go_wp2
        refine wp_region_drew (by kernel_rfl) (by kernel_rfl) ?_
        go_wp2_with (at_builtin; refine wpList_push (.tmp 69) (.tmp 82) 30 37 4 40 [.int .i64 x.c, .int .i64 x.s, .int .i64 x.n, .string ⟨(encP x.p).toArray⟩] rfl rfl Try.underlying30 info_run rfl (by decide) rfl rfl how (below_drewN hbb _).drew (Nat.le_refl _) hbs2 rfl (by simp [Value.oneCell']) (by omega) (by omega) ?_)
        intro v1 w1 ho1 hb1 hl1 hg1
        have hst : RunRel l w (0 + 1) v1 w1 := ⟨by unfold OwnR; rw [HNEW.out, List.length_append, rows_append]; simpa [rows, one, Rn.row] using ho1, hb1⟩
        have HS := Lib.hid hst
        clear hst ho1
        go_wp2
        refine FinQ.intro (by kernel_rfl) ?_
        go_wp2
        go_roundw
        case rel => exact ⟨0 + 1, by omega, by go_num, HS.out⟩
        case measure => simp [intOf]; omega
      | succ m =>
        obtain ⟨ad', p', x', hA', hp', hbk', hx', s1, s2, s3, s4⟩ := atom_at ((hr.more hB).below hrl.below) (show m < n by omega)
        obtain rfl : ad' = ad := by injection hA' with h; exact h.symm
        have hbw' : p'.block < wo.heap.size := Nat.lt_of_lt_of_le hbk' hrl.below.size
        have hxf' := HF.out x' (List.mem_of_getElem? hx'.out)
        have t1 := (hb2.cell (p := p') hbw').trans s1
        have t2 := (hb2.cell (p := ⟨p'.block, p'.off + 1, none⟩) hbw').trans s2
        have t3 := (hb2.cell (p := ⟨p'.block, p'.off + 2, none⟩) hbw').trans s3
        have q1 : IntKind.i64.wrap ((m : Int) + 1 - 1) = (m : Int) := by rw [IntWalk.i64_in _ (by omega)]; omega
        have q2 : IntKind.i64.wrap (m : Int) = (m : Int) := IntWalk.i64_in _ (by omega)
        have q3 : IntKind.i64.wrap (x'.n + 1) = x'.n + 1 := IntWalk.i64_in _ (by omega)
        clear s1 s2 s3 s4 hA'
        rcases glue_parts x' x with ⟨e, h1⟩ | ⟨e, h1, h2⟩ | ⟨e, h1, h2⟩
        · have HNEW := Lib.hid (runs_new hx.out (fun i a h g => by obtain rfl : i = m := (by omega); rw [hx'.out] at g; cases g; exact e))
          clear e
          go_quiet (fail)
          go_wp2
          refine wp_region_drew (by kernel_rfl) (by kernel_rfl) ?_
          go_wp2_with (at_builtin; refine wpList_push (.tmp 69) (.tmp 82) 30 37 4 40 [.int .i64 x.c, .int .i64 x.s, .int .i64 x.n, .string ⟨(encP x.p).toArray⟩] rfl rfl Try.underlying30 info_run rfl (by decide) rfl rfl how (below_drewN hbb _).drew (Nat.le_refl _) hbs2 rfl (by simp [Value.oneCell']) (by omega) (by omega) ?_)
          intro v1 w1 ho1 hb1 hl1 hg1
          have hst : RunRel l w (m + 1 + 1) v1 w1 := ⟨by unfold OwnR; rw [HNEW.out, List.length_append, rows_append]; simpa [rows, one, Rn.row] using ho1, hb1⟩
          have HS := Lib.hid hst
          clear hst ho1
          go_wp2
          refine FinQ.intro (by kernel_rfl) ?_
          go_wp2
          go_roundw
          case rel => exact ⟨m + 1 + 1, by omega, by go_num, HS.out⟩
          case measure => simp [intOf]; omega
        · have HNEW := Lib.hid (runs_new hx.out (fun i a h g => by obtain rfl : i = m := (by omega); rw [hx'.out] at g; cases g; exact e))
          rw [h1] at t1
          clear e h1
          go_quiet (fail)
          go_wp2
          refine wp_region_drew (by kernel_rfl) (by kernel_rfl) ?_
          go_wp2_with (at_builtin; refine wpList_push (.tmp 69) (.tmp 82) 30 37 4 40 [.int .i64 x.c, .int .i64 x.s, .int .i64 x.n, .string ⟨(encP x.p).toArray⟩] rfl rfl Try.underlying30 info_run rfl (by decide) rfl rfl how (below_drewN hbb _).drew (Nat.le_refl _) hbs2 rfl (by simp [Value.oneCell']) (by omega) (by omega) ?_)
          intro v1 w1 ho1 hb1 hl1 hg1
          have hst : RunRel l w (m + 1 + 1) v1 w1 := ⟨by unfold OwnR; rw [HNEW.out, List.length_append, rows_append]; simpa [rows, one, Rn.row] using ho1, hb1⟩
          have HS := Lib.hid hst
          clear hst ho1
          go_wp2
          refine FinQ.intro (by kernel_rfl) ?_
          go_wp2
          go_roundw
          case rel => exact ⟨m + 1 + 1, by omega, by go_num, HS.out⟩
          case measure => simp [intOf]; omega
        · rw [h1] at t1
          rw [h2] at t2
          cases hge : glue x' x with
          | false =>
            have HNEW := Lib.hid (runs_new hx.out (fun i a h g => by obtain rfl : i = m := (by omega); rw [hx'.out] at g; cases g; exact hge))
            rw [e] at hge
            clear e h1 h2
            go_quiet (fail)
            go_wp2
            refine wp_region_drew (by kernel_rfl) (by kernel_rfl) ?_
            go_wp2_with (at_builtin; refine wpList_push (.tmp 69) (.tmp 82) 30 37 4 40 [.int .i64 x.c, .int .i64 x.s, .int .i64 x.n, .string ⟨(encP x.p).toArray⟩] rfl rfl Try.underlying30 info_run rfl (by decide) rfl rfl how (below_drewN hbb _).drew (Nat.le_refl _) hbs2 rfl (by simp [Value.oneCell']) (by omega) (by omega) ?_)
            intro v1 w1 ho1 hb1 hl1 hg1
            have hst : RunRel l w (m + 1 + 1) v1 w1 := ⟨by unfold OwnR; rw [HNEW.out, List.length_append, rows_append]; simpa [rows, one, Rn.row] using ho1, hb1⟩
            have HS := Lib.hid hst
            clear hst ho1
            go_wp2
            refine FinQ.intro (by kernel_rfl) ?_
            go_wp2
            go_roundw
            case rel => exact ⟨m + 1 + 1, by omega, by go_num, HS.out⟩
            case measure => simp [intOf]; omega
          | true =>
            obtain ⟨R0, q, hR, hR2⟩ := runs_more hx.out hx'.out hge
            have HR2 := Lib.hid hR2
            rw [e] at hge
            have hqs := last_text_le hR
            have hel := encP_le x.p
            have hke : (l.take (m + 1)).length ≤ m + 1 := by simp; omega
            rw [hR] at how
            obtain ⟨g, cap, rfl, u1, u2, u3, u4, d1, d2, d3, d4, d5, hset⟩ := last_run how
            have HSET := Lib.hid hset
            have hR0 : R0.length + 1 ≤ m + 1 := by rw [hR] at hrlen; simpa using hrlen
            clear e h1 h2 hset how hR2 hR hrl
            go_quiet (fail)
            go_wp2
            have hst : ∀ nq, RunRel l w (m + 1 + 1) (.slice (some ⟨g, 0, none⟩) (R0.length + 1) cap) ((w2.drewN nq).setCell ⟨g, R0.length * 4 + 3, none⟩ (.string (q.t ++ ⟨(encP x.p).toArray⟩))) := fun nq => ⟨by rw [HR2.out]; exact (HSET.out (q.t ++ ⟨(encP x.p).toArray⟩)).1, (below_drewN hbb nq).setCell u3 _⟩
            have HS := Lib.hid hst
            clear hst
            go_roundw
            case rel => exact ⟨m + 1 + 1, by omega, by go_num, HS.out _⟩
            case measure => simp [intOf]; omega
    · have hkk : l.take k = l := List.take_of_length_le (by rw [HL.out]; omega)
      have ho := hrl.own
      rw [hkk] at ho
      have HO := Lib.hid ho
      have hbb := hrl.below
      clear ho hrl hkk
      go_wp2
      go_ret
      exact ⟨_, rfl, HO.out, hbb⟩
end Go.Proofs.Ytdhpbfmamkndjaa.Doc
