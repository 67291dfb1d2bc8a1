/- Contract: oxbowref12.Check. -/
import Derived.Test.YtdhpbfmamkndjaaDocN
import Derived.Deep.RegionHeld3
import Derived.IntWalk
namespace Go.Proofs.Ytdhpbfmamkndjaa.Doc
open Go.RowKit Ox
set_option linter.unusedVariables false
set_option linter.unusedSimpArgs false
structure RChk (l : List Rn) (w : World) (k : Nat) (wr : World) : Prop where
  pre : Pre (l.take k)
  below : Below w.heap.size w wr
theorem rcases_run (r : Rn) : (orgB r.c r.s = false ∧ ¬ OkRun r) ∨ (orgB r.c r.s = true ∧ lenR r < 1 ∧ ¬ OkRun r) ∨ (orgB r.c r.s = true ∧ 1 ≤ lenR r ∧ r.f < 0 ∧ ¬ OkRun r) ∨ (orgB r.c r.s = true ∧ 1 ≤ lenR r ∧ 0 ≤ r.f ∧ 999 < r.f ∧ ¬ OkRun r) ∨
    (orgB r.c r.s = true ∧ 1 ≤ lenR r ∧ 0 ≤ r.f ∧ r.f ≤ 999 ∧ 1000 - r.f < lenR r ∧ ¬ OkRun r) ∨ (orgB r.c r.s = true ∧ 1 ≤ lenR r ∧ 0 ≤ r.f ∧ r.f ≤ 999 ∧ lenR r ≤ 1000 - r.f) := by
  cases ho : orgB r.c r.s with
  | false => exact .inl ⟨rfl, fun g => by have := g.org; rw [ho] at this; cases this⟩
  | true =>
    by_cases h1 : lenR r < 1
    · exact .inr (.inl ⟨rfl, h1, fun g => by have := g.len; omega⟩)
    · by_cases h2 : r.f < 0
      · exact .inr (.inr (.inl ⟨rfl, by omega, h2, fun g => by have := g.lo; omega⟩))
      · by_cases h3 : 999 < r.f
        · exact .inr (.inr (.inr (.inl ⟨rfl, by omega, by omega, h3, fun g => by have := g.hi; omega⟩)))
        · by_cases h4 : 1000 - r.f < lenR r
          · exact .inr (.inr (.inr (.inr (.inl ⟨rfl, by omega, by omega, by omega, h4, fun g => by have := g.last; omega⟩))))
          · exact .inr (.inr (.inr (.inr (.inr ⟨rfl, by omega, by omega, by omega, by omega⟩))))
/-- two runs of a document that is read are as they were -/
def HeldTwo (w0 : World) (p q : Addr) (f : Int) (t : ByteArray) (r : Rn) (w : World) : Prop := Below w0.heap.size w0 w ∧ p.block < w0.heap.size ∧ q.block < w0.heap.size ∧
  w.cell? p = some (.int .i64 r.c) ∧ w.cell? ⟨p.block, p.off + 1, none⟩ = some (.int .i64 r.s) ∧ w.cell? ⟨p.block, p.off + 2, none⟩ = some (.int .i64 f) ∧ w.cell? ⟨p.block, p.off + 3, none⟩ = some (.string t) ∧
  w.cell? q = some (.int .i64 r.c) ∧ w.cell? ⟨q.block, q.off + 1, none⟩ = some (.int .i64 r.s) ∧ w.cell? ⟨q.block, q.off + 2, none⟩ = some (.int .i64 r.f) ∧ w.cell? ⟨q.block, q.off + 3, none⟩ = some (.string r.t)
theorem HeldTwo.next {w0 w w' : World} {p q : Addr} {f : Int} {t : ByteArray} {r : Rn} (h : HeldTwo w0 p q f t r w) (hb : Below w.heap.size w w') : HeldTwo w0 p q f t r w' := by
  obtain ⟨h0, hp, hq, c1, c2, c3, c4, c5, c6, c7, c8⟩ := h
  have hp' : p.block < w.heap.size := Nat.lt_of_lt_of_le hp h0.size
  have hq' : q.block < w.heap.size := Nat.lt_of_lt_of_le hq h0.size
  exact ⟨below_next h0 hb h0.size, hp, hq, (hb.cell hp').trans c1, (hb.cell (p := ⟨p.block, p.off + 1, none⟩) hp').trans c2, (hb.cell (p := ⟨p.block, p.off + 2, none⟩) hp').trans c3, (hb.cell (p := ⟨p.block, p.off + 3, none⟩) hp').trans c4,
    (hb.cell hq').trans c5, (hb.cell (p := ⟨q.block, q.off + 1, none⟩) hq').trans c6, (hb.cell (p := ⟨q.block, q.off + 2, none⟩) hq').trans c7, (hb.cell (p := ⟨q.block, q.off + 3, none⟩) hq').trans c8⟩
theorem HeldTwo.open {w0 w : World} {p q : Addr} {f : Int} {t : ByteArray} {r : Rn} (h : HeldTwo w0 p q f t r w) : HeldTwo w0 p q f t r w ∧ w.cell? p = some (.int .i64 r.c) ∧ w.cell? ⟨p.block, p.off + 1, none⟩ = some (.int .i64 r.s) ∧ w.cell? ⟨p.block, p.off + 2, none⟩ = some (.int .i64 f) ∧ w.cell? ⟨p.block, p.off + 3, none⟩ = some (.string t) ∧
    w.cell? q = some (.int .i64 r.c) ∧ w.cell? ⟨q.block, q.off + 1, none⟩ = some (.int .i64 r.s) ∧ w.cell? ⟨q.block, q.off + 2, none⟩ = some (.int .i64 r.f) ∧ w.cell? ⟨q.block, q.off + 3, none⟩ = some (.string r.t) := ⟨h, h.2.2.2⟩
set_option maxRecDepth 100000 in
set_option maxHeartbeats 8000000 in
theorem rcheck_any (A : Option Addr) (n c B : Nat) (l : List Rn) (w : World) (hr : Reads w B 4 A n (rows l)) (hB : B ≤ w.heap.size) (hn : n ≤ 100000000000) (hz : ∀ r ∈ l, r.t.size ≤ 10000000000000) :
    Calls Try.prog 34 #[.slice A n c] w (Text.Num (chk l) w) := by
  have HL := Lib.hid (rows_len hr)
  go_enter Try.func34, Try.ntmps34
  go_wp2
  go_loopw [3, 4] (fun t i wr => ∃ k : Nat, k ≤ n ∧ i = .int .i64 k ∧ t = .int .i64 ((names (l.take k)).length : Nat) ∧ RChk l w k wr) (fun _ i _ => n - (intOf i).toNat)
  case atStart => exact ⟨0, Nat.zero_le _, rfl, rfl, Pre.nil, Below.refl _ _⟩
  case round =>
    obtain ⟨wo, hwo⟩ : ∃ wo, wo = wr := ⟨_, rfl⟩
    subst hwo
    obtain ⟨k, hk, rfl, rfl, hrl⟩ := hrel
    have hfew0 := hrl.pre.few
    generalize hT : (names (l.take k)).length = T at hfew0 ⊢
    have HT := Lib.hid hT
    clear hT
    by_cases hlt : k < n
    · obtain ⟨ad, p, r, rfl, hp, hbk, hx, p1, p2, p3, p4⟩ := run_at ((hr.more hB).below hrl.below) hlt
      have hbw : p.block < wo.heap.size := Nat.lt_of_lt_of_le hbk hrl.below.size
      have hL := fun w => Text.rlen_any r.t w (hz r (List.mem_of_getElem? hx.out))
      change ∀ w, Calls Try.prog 70 #[.string r.t] w (Text.Num (lenR r) w) at hL
      have hlo := lenR_hi r
      have hrz := hz r (List.mem_of_getElem? hx.out)
      have HLn := Lib.hid hL
      have hO := fun w => origin_any r.c r.s w
      clear hL
      rcases rcases_run r with ⟨g1, g⟩ | ⟨g1, g2, g⟩ | ⟨g1, g2, g3, g⟩ | ⟨g1, g2, g3, g4, g⟩ | ⟨g1, g2, g3, g4, g5, g⟩ | ⟨g1, g2, g3, g4, g5⟩
      iterate 5
        · rw [g1] at hO
          have HO := Lib.hid hO
          have hch := Lib.hid (chk_run hx.out g)
          clear hO g1 g
          go_wp2_with (first
            | (go_at_call 70; refine (HLn.out _).mono ?_; rintro e w2 ⟨rfl, hb2⟩; have c1 := (hb2.cell (p := p) hbw).trans p1; have c2 := (hb2.cell (p := ⟨p.block, p.off + 1, none⟩) hbw).trans p2; have c3 := (hb2.cell (p := ⟨p.block, p.off + 2, none⟩) hbw).trans p3)
            | (go_at_call 71; refine (HO.out _).mono ?_; rintro e w3 ⟨rfl, hb3⟩; have hbb := hb2.trans (hb3.mono hb2.size); have d3 := (hbb.cell (p := ⟨p.block, p.off + 2, none⟩) hbw).trans p3))
          go_ret
          exact num_fin hch.out.symm (below_next hrl.below hbb hrl.below.size)
      · rw [g1] at hO
        have HO := Lib.hid hO
        clear hO
        obtain ⟨M, hM⟩ := Int.eq_ofNat_of_zero_le (show 0 ≤ lenR r by omega)
        rw [hM] at g2 g5 hlo HLn
        have hT1 : (names (l.take (k + 1))).length = T + M := by rw [names_snoc hx.out, List.length_append, namesR_length, hM, HT.out]; simp
        have HT1 := Lib.hid hT1
        have hok : OkRun r := ⟨g1, by rw [hM]; exact g2, g3, g4, by rw [hM]; omega⟩
        have HOK := Lib.hid hok
        clear hT1 hM hok g1
        go_wp2_with (first
          | (go_at_call 70; refine (HLn.out _).mono ?_; rintro e w2 ⟨rfl, hb2⟩; have c1 := (hb2.cell (p := p) hbw).trans p1; have c2 := (hb2.cell (p := ⟨p.block, p.off + 1, none⟩) hbw).trans p2; have c3 := (hb2.cell (p := ⟨p.block, p.off + 2, none⟩) hbw).trans p3)
          | (go_at_call 71; refine (HO.out _).mono ?_; rintro e w3 ⟨rfl, hb3⟩; have hbb := hb2.trans (hb3.mono hb2.size); have d1 := (hbb.cell (p := p) hbw).trans p1; have d2 := (hbb.cell (p := ⟨p.block, p.off + 1, none⟩) hbw).trans p2; have d3 := (hbb.cell (p := ⟨p.block, p.off + 2, none⟩) hbw).trans p3; have d4 := (hbb.cell (p := ⟨p.block, p.off + 3, none⟩) hbw).trans p4))
        · have hch := Lib.hid (chk_many (l := l) (k := k + 1) (by rw [HT1.out]; omega))
          go_ret
          exact num_fin hch.out.symm (below_next hrl.below hbb hrl.below.size)
        · have hfew : T + M ≤ 1000 := by omega
          have hst : ∀ w4, Below wo.heap.size wo w4 → (∀ (i : Nat) (a : Rn), k = i + 1 → l[i]? = some a → folB a r = false) → RChk l w (k + 1) w4 := fun w4 h4 ha =>
            ⟨hrl.pre.snoc hx.out HOK.out ha (by rw [← names_snoc hx.out, HT1.out]; omega), below_next hrl.below h4 hrl.below.size⟩
          have HST := Lib.hid hst
          clear hst p1 p2 p3 p4 c1 c2 c3 hb2 hb3 HO HLn
          cases k with
          | zero =>
            go_quiet (fail)
            have hst := Lib.hid (fun nq => HST.out _ (below_drewN hbb nq) (fun i a h _ => by omega))
            go_wp2
            go_roundw
            case rel => exact ⟨0 + 1, by omega, by go_num, by rw [HT1.out]; go_num, hst.out _⟩
            case measure => simp [intOf]; omega
          | succ m =>
            obtain ⟨ad', p', r', hA', hp', hbk', hx', s1, s2, s3, s4⟩ := run_at ((hr.more hB).below hrl.below) (show m < n by omega)
            obtain rfl : ad' = ad := by injection hA' with h; exact h.symm
            have hbw' : p'.block < wo.heap.size := Nat.lt_of_lt_of_le hbk' hrl.below.size
            have t1 := (hbb.cell (p := p') hbw').trans s1
            have t2 := (hbb.cell (p := ⟨p'.block, p'.off + 1, none⟩) hbw').trans s2
            have t3 := (hbb.cell (p := ⟨p'.block, p'.off + 2, none⟩) hbw').trans s3
            have t4 := (hbb.cell (p := ⟨p'.block, p'.off + 3, none⟩) hbw').trans s4
            have hok' : OkRun r' := hrl.pre.runs m r' (by rw [List.getElem?_take, if_pos (by omega)]; exact hx'.out)
            have hL' := fun w => Text.rlen_any r'.t w (hz r' (List.mem_of_getElem? hx'.out))
            change ∀ w, Calls Try.prog 70 #[.string r'.t] w (Text.Num (lenR r') w) at hL'
            have hlr' := hok'.len
            have hbd' : 0 ≤ r'.f ∧ r'.f ≤ 999 ∧ r'.f + lenR r' ≤ 1000 := ⟨hok'.lo, hok'.hi, hok'.last⟩
            have hfol : (folB r' r = false ∧ ¬ r'.c = r.c) ∨ (folB r' r = false ∧ r'.c = r.c ∧ ¬ r'.s = r.s) ∨ (folB r' r = (r'.f + lenR r' == r.f) ∧ r'.c = r.c ∧ r'.s = r.s) := by
              unfold folB
              change (decide (_ ∧ _ ∧ r'.f + lenR r' = r.f) = false ∧ _) ∨ (decide (_ ∧ _ ∧ r'.f + lenR r' = r.f) = false ∧ _) ∨ (decide (_ ∧ _ ∧ r'.f + lenR r' = r.f) = _ ∧ _)
              by_cases h1 : r'.c = r.c <;> by_cases h2 : r'.s = r.s <;> by_cases h3 : r'.f + lenR r' = r.f <;> simp [h1, h2, h3]
            have HLn' := Lib.hid hL'
            have q1 : IntKind.i64.wrap ((m : Int) + 1 - 1) = (m : Int) := by rw [IntWalk.i64_in _ (by omega)]; omega
            clear s1 s2 s3 s4 hok' hL' hA'
            rcases hfol with ⟨e, h1⟩ | ⟨e, h1, h2⟩ | ⟨e, h1, h2⟩
            · have hst := Lib.hid (fun nq => HST.out _ (below_drewN hbb nq) (fun i a h g => by obtain rfl : i = m := (by omega); rw [hx'.out] at g; cases g; exact e))
              clear e
              go_quiet (fail)
              go_wp2
              go_roundw
              case rel => exact ⟨m + 1 + 1, by omega, by go_num, by rw [HT1.out]; go_num, hst.out _⟩
              case measure => simp [intOf]; omega
            · have hst := Lib.hid (fun nq => HST.out _ (below_drewN hbb nq) (fun i a h g => by obtain rfl : i = m := (by omega); rw [hx'.out] at g; cases g; exact e))
              rw [h1] at t1
              clear e h1
              go_quiet (fail)
              go_wp2
              go_roundw
              case rel => exact ⟨m + 1 + 1, by omega, by go_num, by rw [HT1.out]; go_num, hst.out _⟩
              case measure => simp [intOf]; omega
            · have hch : folB r' r = true → Hid (chk l = 120) := fun h => chk_fol (k := m) hx'.out hx.out h
              have hsn : folB r' r = false → Hid (∀ w4, Below wo.heap.size wo w4 → RChk l w (m + 1 + 1) w4) := fun h w4 h4 => HST.out w4 h4 (fun i a h0 g => by obtain rfl : i = m := (by omega); rw [hx'.out] at g; cases g; exact h)
              rw [h1] at t1
              rw [h2] at t2
              have hsum : IntKind.i64.wrap (r'.f + lenR r') = r'.f + lenR r' := IntWalk.i64_in _ (by omega)
              have b0 : (0 : Int) ≤ (m : Int) := by omega
              have b1 : (m : Int) < (n : Int) := by omega
              have b2 : (0 : Int) ≤ (m : Int) + 1 := by omega
              have b3 : (m : Int) + 1 < (n : Int) := by omega
              have b4 : ((m : Int) + 1).toNat = m + 1 := by omega
              have q2 : IntKind.i64.wrap (m : Int) = (m : Int) := IntWalk.i64_in _ (by omega)
              have b5 : ((m : Int)).toNat = m := by omega
              have hH : HeldTwo wo p' p r'.f r'.t r w3 := ⟨hbb, hbw', hbw, t1, t2, t3, t4, d1, d2, d3, d4⟩
              cases hfe : folB r' r with
              | true =>
                have hch := hch hfe
                rw [e] at hfe
                have HE := Lib.hid hfe
                clear e h1 h2 hsn hfe
                go_region_held3 (fun w' => HeldTwo wo p' p r'.f r'.t r w' ∧ w'.cell? p' = some (.int .i64 r.c) ∧ w'.cell? ⟨p'.block, p'.off + 1, none⟩ = some (.int .i64 r.s) ∧ w'.cell? ⟨p'.block, p'.off + 2, none⟩ = some (.int .i64 r'.f) ∧ w'.cell? ⟨p'.block, p'.off + 3, none⟩ = some (.string r'.t) ∧
                    w'.cell? p = some (.int .i64 r.c) ∧ w'.cell? ⟨p.block, p.off + 1, none⟩ = some (.int .i64 r.s) ∧ w'.cell? ⟨p.block, p.off + 2, none⟩ = some (.int .i64 r.f) ∧ w'.cell? ⟨p.block, p.off + 3, none⟩ = some (.string r.t))
                  (first | exact HeldTwo.open (HeldTwo.next hH (Below.refl _ _).drew) | exact HeldTwo.open (HeldTwo.next (And.left (by assumption)) (by assumption)))
                  (first | (go_at_call 70; refine (HLn'.out _).mono ?_; rintro e w' ⟨rfl, hb'⟩))
                have hS := And.left (‹HeldTwo wo p' p r'.f r'.t r _ ∧ _›)
                have hE := HE.out
                go_wp2
                go_ret
                exact num_fin hch.out.symm (below_next hrl.below hS.1 hrl.below.size)
              | false =>
                have hsn := Lib.hid (hsn hfe)
                rw [e] at hfe
                have HE := Lib.hid hfe
                clear e h1 h2 hch hfe
                go_region_held3 (fun w' => HeldTwo wo p' p r'.f r'.t r w' ∧ w'.cell? p' = some (.int .i64 r.c) ∧ w'.cell? ⟨p'.block, p'.off + 1, none⟩ = some (.int .i64 r.s) ∧ w'.cell? ⟨p'.block, p'.off + 2, none⟩ = some (.int .i64 r'.f) ∧ w'.cell? ⟨p'.block, p'.off + 3, none⟩ = some (.string r'.t) ∧
                    w'.cell? p = some (.int .i64 r.c) ∧ w'.cell? ⟨p.block, p.off + 1, none⟩ = some (.int .i64 r.s) ∧ w'.cell? ⟨p.block, p.off + 2, none⟩ = some (.int .i64 r.f) ∧ w'.cell? ⟨p.block, p.off + 3, none⟩ = some (.string r.t))
                  (first | exact HeldTwo.open (HeldTwo.next hH (Below.refl _ _).drew) | exact HeldTwo.open (HeldTwo.next (And.left (by assumption)) (by assumption)))
                  (first | (go_at_call 70; refine (HLn'.out _).mono ?_; rintro e w' ⟨rfl, hb'⟩))
                have hS := And.left (‹HeldTwo wo p' p r'.f r'.t r _ ∧ _›)
                have hE := HE.out
                have hst := Lib.hid (hsn.out.out _ hS.1)
                go_wp2
                go_roundw
                case rel => exact ⟨m + 1 + 1, by omega, by go_num, by rw [HT1.out]; go_num, hst.out⟩
                case measure => simp [intOf]; omega
    · have hkn : l.take k = l := List.take_of_length_le (by rw [HL.out]; omega)
      have hpre := hrl.pre
      rw [hkn] at hpre
      have hrd := (hr.more hB).below hrl.below
      have hbw := hrl.below.size
      have hf : ∀ r ∈ l, -1000000000000000 ≤ r.f ∧ r.f ≤ 1000000000000000 := fun r hm => by
        obtain ⟨i, hi, rfl⟩ := List.getElem_of_mem hm
        have h := hpre.runs i _ (List.getElem?_eq_getElem hi)
        have h1 := h.lo
        have h2 := h.hi
        omega
      have hcnt : (atoms l).length ≤ 1000 := by have := hpre.few; rw [← atoms_nm, List.length_map] at this; exact this
      have hAt := atoms_any A n c w.heap.size l wo hrd hbw hn hz hf (by omega)
      have HA := Lib.hid hAt
      have HP := Lib.hid hpre
      clear hAt hpre hf hrd hkn
      go_wp2_with (go_at_call 43; refine (HA.out).mono ?_; rintro e w2 ⟨v, rfl, ho, hb2⟩; obtain ⟨Aa, ca, rfl, hnc, hcm, hrd2, _⟩ := own_slice ho)
      have HR2 := Lib.hid hrd2
      have hbw2 := below_next hrl.below hb2 hrl.below.size
      clear hrd2 ho hb2
      go_loopw [7] (fun i wr => ∃ j : Nat, j ≤ (atoms l).length ∧ i = .int .i64 j ∧ Below w.heap.size w wr ∧ Below w2.heap.size w2 wr ∧ Hid (∀ (i : Nat) (a : At), i < j → (atoms l)[i]? = some a → findOf (atoms l) a = i)) (fun i _ => (atoms l).length - (intOf i).toNat)
      case atStart => exact ⟨0, Nat.zero_le _, rfl, hbw2, Below.refl _ _, fun i a h _ => by omega⟩
      case round =>
        obtain ⟨j, hj, rfl, hb4, hb5, hall⟩ := hrel
        by_cases hlj : j < (atoms l).length
        · have hrd3 := HR2.out.below hb5
          obtain ⟨ad2, p, x, rfl, hp, hbk, hx, p1, p2, p3, p4⟩ := atom_at hrd3 hlj
          have hF := find_any (some ad2) (atoms l).length ca w2.heap.size (atoms l) x wr hrd3 hb5.size (by omega)
          have HF := Lib.hid hF
          clear hF hrd3
          by_cases he : findOf (atoms l) x = j
          · have hall2 : Hid (∀ (i : Nat) (a : At), i < j + 1 → (atoms l)[i]? = some a → findOf (atoms l) a = i) := fun i a hi ha => by
              rcases Nat.lt_or_ge i j with h | h
              · exact hall.out i a h ha
              · obtain rfl : i = j := by omega
                rw [hx.out] at ha
                cases ha
                exact he
            rw [he] at HF
            clear he
            go_wp2_with (go_at_call 57; refine (HF.out).mono ?_; rintro e w6 ⟨rfl, hb6⟩)
            have hbe := below_next hb4 hb6 hb4.size
            have hbf := below_next hb5 hb6 hb5.size
            go_roundw
            case rel => exact ⟨j + 1, by omega, by go_num, hbe, hbf, hall2⟩
            case measure => simp [intOf]; omega
          · have hch : chk l = 120 := chk_bad fun g => he (find_of_nodup (by rw [atoms_nm]; exact g.nodup) hx.out)
            have HC := Lib.hid hch
            have hne : (findOf (atoms l) x != (j : Int)) = true := by simpa using he
            clear hch he
            generalize findOf (atoms l) x = z at *
            go_wp2_with (go_at_call 57; refine (HF.out).mono ?_; rintro e w6 ⟨rfl, hb6⟩)
            go_ret
            exact num_fin HC.out.symm (below_next hb4 hb6 hb4.size)
        · have hch : chk l = 0 := chk_good (HP.out.good (by
            rw [← atoms_nm]
            exact nodup_of_find fun i a ha => hall.out i a (by have := (List.getElem?_eq_some_iff.1 ha).1; omega) ha))
          have HC := Lib.hid hch
          clear hch
          go_wp2
          go_ret
          exact num_fin HC.out.symm hb4
end Go.Proofs.Ytdhpbfmamkndjaa.Doc
