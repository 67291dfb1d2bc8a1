/- Contract: doc.reader.take. -/
import Derived.Test.YtdhpbfmamkndjaaDocU
import Derived.Deep.RegionLaw
namespace Go.Proofs.Ytdhpbfmamkndjaa.Doc
open Go.RowKit Ox
set_option linter.unusedVariables false
set_option linter.unusedSimpArgs false
theorem reads_row {w w' : World} {B size n : Nat} {A : Option Addr} {xs : List Value} {row : Option Nat} (h : Reads w B size A n xs) (hg : w.grownBy w' row) (hB : B ≤ w.heap.size) (ha : ∀ ad, A = some ad → some ad.block ≠ row) : Reads w' B size A n xs :=
  ⟨h.1, fun hn => by
    obtain ⟨ad, e, hb, hc⟩ := h.2 hn
    refine ⟨ad, e, hb, fun j u hu => ?_⟩
    exact (World.cell?_of_block (a := ad.add j) (by rw [block_of_add]; exact hg.block ad.block (by omega) (ha ad e))).trans (hc j u hu)⟩
/-- an append within a region, what it comes to being known -/
theorem step_run {P : Program} {ops : Array Oper} {o : Oper} {a : Act} {K : Act → World → Prop} {Q : Exit → Act → World → Prop} {E : Prop} {w w' : World} (hgd : o.guard = none) (s x : Operand) (t : TypeId)
    (ho : o.op = .call { callee := .builtin .append, args := #[s, x], argTypes := #[t, t] }) {v y v' : Value} (hs : a.eval s = v) (hx : a.eval x = y) (hrun : (Builtin.append_ #[t, t] o.type #[v, y]).run P w = .ok v' w') (h : K (a.put o.dst v') w') :
    if Region.wanted o (yielded ops a.tmps) = true then Oper.wp P o a w K Q else E := by
  have hw : Region.wanted o (yielded ops a.tmps) = true := by simp [Region.wanted, hgd]
  rw [if_pos hw]
  unfold Oper.wp execOp
  simp only [ho, resolve, invoke, builtin, Sem.run_bind, Sem.run_pure, Result.andThen_ok, List.map_toArray, List.map_cons, List.map_nil, hs, hx, hrun]
  exact h
/-- a reader in its block, and what it has still to read -/
structure Rdr (w : World) (br : Nat) (A : Option Addr) (m c : Nat) (R : List Rn) : Prop where
  blk : Blk w br 112 #[.slice A m c]
  read : Reads w w.heap.size 4 A m (rows R)
  apart : ∀ ad, A = some ad → ad.block ≠ br
  le : m ≤ c
  lt : ∀ ad, A = some ad → ad.block < w.heap.size
structure TakeRel (R0 : List Rn) (a : List At) (keep : Bool) (B br : Nat) (w : World) (j : Nat) (v : Value) (wr : World) : Prop where
  ex : ∃ A m c R, Left R0 R j ∧ Rdr wr br A m c R ∧ (∀ ad, A = some ad → v.ownBlock ≠ some ad.block)
  own : OwnR wr B v (runsOf (a ++ if keep = true then (atoms R0).take j else []))
  below : Below B w wr
  jl : j ≤ (atoms R0).length
theorem run_cells {w : World} {N : Nat} {t : TypeId} {r : Rn} (h : Blk w N t #[.int .i64 r.c, .int .i64 r.s, .int .i64 r.f, .string r.t]) : w.cell? ⟨N, 0, none⟩ = some (.int .i64 r.c) ∧ w.cell? ⟨N, 1, none⟩ = some (.int .i64 r.s) ∧ w.cell? ⟨N, 2, none⟩ = some (.int .i64 r.f) ∧ w.cell? ⟨N, 3, none⟩ = some (.string r.t) ∧ w.frozen? ⟨N, 2, none⟩ = false ∧ w.frozen? ⟨N, 3, none⟩ = false :=
  ⟨h.cell 0, h.cell 1, h.cell 2, h.cell 3, h.frozen 2, h.frozen 3⟩
theorem rdr_cells {w : World} {N : Nat} {t : TypeId} {v : Value} (h : Blk w N t #[v]) : w.cell? ⟨N, 0, none⟩ = some v ∧ w.frozen? ⟨N, 0, none⟩ = false := ⟨h.cell 0, h.frozen 0⟩
theorem val_size {r : Rn} (h : Val r) : r.t.size ≤ 4 * (ptsL r).length := by
  have h1 := pts_back h.ptsL.1
  have h2 := txt_length_ge (ptsL r)
  rw [h1] at h2
  have : r.t.data.toList.length = r.t.size := by simp
  omega
theorem grown_set (w : World) (br i : Nat) (u : Value) : w.grownBy (w.setCell ⟨br, i, none⟩ u) (some br) :=
  ⟨rfl, rfl, rfl, by simp, fun k _ hk => heap_setCell_other w ⟨br, i, none⟩ k u (fun e => hk (by simp [e]))⟩
theorem own_ne_rdr {w : World} {B br : Nat} {v : Value} {X : List Rn} {cs : Array Value} (h : OwnR w B v X) (hb : Blk w br 112 cs) : v.ownBlock ≠ some br := own_blk_ne h hb (by decide)
theorem Rdr.below {w w' : World} {br m c : Nat} {A : Option Addr} {R : List Rn} (h : Rdr w br A m c R) (hb : Below w.heap.size w w') : Rdr w' br A m c R :=
  ⟨h.blk.below hb h.blk.lt, (h.read.below hb).more hb.size, h.apart, h.le, fun ad e => Nat.lt_of_lt_of_le (h.lt ad e) hb.size⟩
theorem Rdr.grown {w w' : World} {B br m c : Nat} {A : Option Addr} {R X : List Rn} {v : Value} (h : Rdr w br A m c R) (ho : OwnR w B v X) (hg : w.grownBy w' v.ownBlock) (hap : ∀ ad, A = some ad → v.ownBlock ≠ some ad.block) : Rdr w' br A m c R :=
  ⟨h.blk.grown hg (own_ne_rdr ho h.blk).symm, (reads_row h.read hg (Nat.le_refl _) fun ad e => (hap ad e).symm).more hg.size, h.apart, h.le, fun ad e => Nat.lt_of_lt_of_le (h.lt ad e) hg.size⟩
theorem Rdr.next {w : World} {br m c : Nat} {p : Addr} {r : Rn} {R : List Rn} (h : Rdr w br (some p) m c (r :: R)) :
    Rdr (w.setCell ⟨br, 0, none⟩ (.slice (if c = 1 then some p else some ⟨p.block, p.off + 4, none⟩) (m - 1) (c - 1))) br (if c = 1 then some p else some ⟨p.block, p.off + 4, none⟩) (m - 1) (c - 1) R := by
  have hm := rows_len h.read
  have hl := h.le
  simp only [List.length_cons] at hm
  have e : (if c = 1 then some p else some ⟨p.block, p.off + 4, none⟩ : Option Addr) = if c = 1 then some p else (some p).map (·.add (1 * 4)) := by
    split
    · rfl
    · simp only [Option.map_some, add_ne (show 0 < 1 * 4 by decide)]
  have hc := h.read.cut (k := 1) (cap := c) (by omega) (by omega)
  rw [← e] at hc
  have ed : (rows (r :: R)).drop (1 * 4) = rows R := by rw [rows_cons, List.drop_left' (by simp [Rn.row])]
  rw [ed] at hc
  have hap : ∀ ad, (if c = 1 then some p else some ⟨p.block, p.off + 4, none⟩ : Option Addr) = some ad → ad.block ≠ br := by
    intro ad hA
    have h1 := h.apart p rfl
    split at hA <;> (injection hA with hA; subst hA; exact h1)
  refine ⟨?_, ?_, hap, by omega, fun ad hA => ?_⟩
  · have := h.blk.set_ 0 (.slice (if c = 1 then some p else some ⟨p.block, p.off + 4, none⟩) (m - 1) (c - 1))
    simpa using this
  · exact (reads_row hc (grown_set w br 0 _) (Nat.le_refl _) fun ad hA e => hap ad hA (by injection e)).more (by simp)
  · have h1 := h.lt p rfl
    split at hA <;> (injection hA with hA; subst hA; simpa using h1)
theorem cut_block {c : Nat} {p : Addr} {v : Value} (h : v.ownBlock ≠ some p.block) : ∀ ad, (if c = 1 then some p else some ⟨p.block, p.off + 4, none⟩ : Option Addr) = some ad → v.ownBlock ≠ some ad.block := by
  intro ad hA
  split at hA <;> (injection hA with hA; subst hA; exact h)
theorem blk_f {w : World} {N : Nat} {t : TypeId} {a b c d : Value} (h : Blk w N t #[a, b, c, d]) (u : Value) : Blk (w.setCell ⟨N, 2, none⟩ u) N t #[a, b, u, d] := by simpa using h.set_ 2 u
theorem blk_t {w : World} {N : Nat} {t : TypeId} {a b c d : Value} (h : Blk w N t #[a, b, c, d]) (u : Value) : Blk (w.setCell ⟨N, 3, none⟩ u) N t #[a, b, c, u] := by simpa using h.set_ 3 u
theorem Rdr.set_ {w : World} {br m c N i : Nat} {A : Option Addr} {R : List Rn} {u : Value} (h : Rdr w br A m c R) (hN : N ≠ br) (hA : ∀ ad, A = some ad → ad.block ≠ N) : Rdr (w.setCell ⟨N, i, none⟩ u) br A m c R :=
  ⟨h.blk.far hN.symm u, (reads_row h.read (grown_set w N i u) (Nat.le_refl _) fun ad e h1 => hA ad e (by injection h1)).more (by simp), h.apart, h.le, fun ad e => by have := h.lt ad e; simpa using this⟩
theorem own_set {w : World} {B N i : Nat} {v u : Value} {X : List Rn} (h : OwnR w B v X) (hN : v.ownBlock ≠ some N) : OwnR (w.setCell ⟨N, i, none⟩ u) B v X := World.ownsRow.kept h (grown_set w N i u) (.inr hN)
/-- all that the last step of a reader starts from -/
structure Mid (R0 : List Rn) (a : List At) (keep : Bool) (B br N j k : Nat) (p : Addr) (m c : Nat) (r : Rn) (R : List Rn) (v : Value) (w w7 : World) : Prop where
  kb : Blk w7 N 37 #[.int .i64 (r.rest k).c, .int .i64 (r.rest k).s, .int .i64 (r.rest k).f, .string (r.rest k).t]
  rd : Rdr w7 br (some p) m c (r :: R)
  own : OwnR w7 B v (runsOf (a ++ if keep = true then (atoms R0).take (j + k) else []))
  ap : v.ownBlock ≠ some p.block
  below : Below B w w7
theorem mid_of {R0 R : List Rn} {a : List At} {keep : Bool} {B br N j k m c : Nat} {p : Addr} {r : Rn} {v : Value} {w w3 w6 : World} (hkb : Blk w3 N 37 #[.int .i64 r.c, .int .i64 r.s, .int .i64 r.f, .string r.t]) (hrd : Rdr w3 br (some p) m c (r :: R))
    (how : OwnR w3 B v (runsOf (a ++ if keep = true then (atoms R0).take (j + k) else []))) (hap : v.ownBlock ≠ some p.block) (hbl : Below B w w3) (hN : N ≠ br) (hpN : p.block ≠ N) (hvN : v.ownBlock ≠ some N) (hBN : B ≤ N)
    (hb : Below (w3.setCell ⟨N, 2, none⟩ (.int .i64 (r.f + (k : Int)))).heap.size (w3.setCell ⟨N, 2, none⟩ (.int .i64 (r.f + (k : Int)))) w6) :
    Mid R0 a keep B br N j k p m c r R v w (w6.setCell ⟨N, 3, none⟩ (.string ⟨(txt ((ptsL r).drop k)).toArray⟩)) := by
  have hlt := hkb.lt
  have hA : ∀ ad, some p = some ad → ad.block ≠ N := fun ad e => by injection e with e; rw [← e]; exact hpN
  have k1 := blk_f hkb (.int .i64 (r.f + (k : Int)))
  have r1 := (hrd.set_ (i := 2) (u := .int .i64 (r.f + (k : Int))) hN hA).below hb
  have o1 : OwnR (w3.setCell ⟨N, 2, none⟩ (.int .i64 (r.f + (k : Int)))) B v _ := own_set how hvN
  have b1 := hbl.setCell (p := ⟨N, 2, none⟩) hBN (.int .i64 (r.f + (k : Int)))
  have hs : B ≤ (w3.setCell ⟨N, 2, none⟩ (.int .i64 (r.f + (k : Int)))).heap.size := by simp; omega
  have o2 : OwnR w6 B v _ := own_below o1 hb
  exact ⟨blk_t (k1.below hb k1.lt) _, r1.set_ hN hA, own_set o2 hvN, hap, (below_next b1 hb hs).setCell (p := ⟨N, 3, none⟩) hBN _⟩
theorem len_le_atoms : ∀ {R : List Rn}, (∀ r ∈ R, Val r) → R.length ≤ (atoms R).length
  | [], _ => Nat.le_refl _
  | r :: R, h => by
    have h1 := len_le_atoms (R := R) fun x hx => h x (by simp [hx])
    have h2 := List.length_pos_iff.2 (h r (by simp)).ptsL.2
    rw [atoms_cons, List.length_append, atomsR_length, List.length_cons]
    omega
theorem cut_reads {w : World} {br m c : Nat} {p : Addr} {r : Rn} {R : List Rn} (h : Rdr w br (some p) m c (r :: R)) : Reads w w.heap.size 4 (if c = 1 then some p else some ⟨p.block, p.off + 4, none⟩) (m - 1) (rows R) := by
  have hm := rows_len h.read
  have hl := h.le
  simp only [List.length_cons] at hm
  have e : (if c = 1 then some p else some ⟨p.block, p.off + 4, none⟩ : Option Addr) = if c = 1 then some p else (some p).map (·.add (1 * 4)) := by
    split
    · rfl
    · simp only [Option.map_some, add_ne (show 0 < 1 * 4 by decide)]
  have hc := h.read.cut (k := 1) (cap := c) (by omega) (by omega)
  rw [← e] at hc
  have ed : (rows (r :: R)).drop (1 * 4) = rows R := by rw [rows_cons, List.drop_left' (by simp [Rn.row])]
  rw [ed] at hc
  exact hc
/-- what is left is laid anew -/
theorem fin_part {R0 R : List Rn} {a : List At} {keep : Bool} {B br N j k m c c8 m8 : Nat} {p : Addr} {A8 : Option Addr} {r : Rn} {v : Value} {w w7 w8 : World} (hL : Left R0 (r :: R) j) (hk : k < (ptsL r).length) (h : Mid R0 a keep B br N j k p m c r R v w w7)
    (hBr : B ≤ br) (ho : w8.ownsRow w7.heap.size 37 4 (.slice A8 m8 c8) m8 (rows (r.rest k :: R))) (hg : w7.grownBy w8 none) :
    TakeRel R0 a keep B br w (j + k) v (w8.setCell ⟨br, 0, none⟩ (.slice A8 m8 c8)) ∧ Blk w8 br 112 #[.slice (some p) m c] := by
  obtain ⟨h1, h2, h3⟩ := hL.part hk
  have rb8 := h.rd.blk.grown hg (by simp)
  have ho8 : OwnR w8 B v _ := World.ownsRow.kept h.own hg (by cases v.ownBlock <;> simp)
  obtain ⟨A', c', hv, hn, _, hrd, hbase⟩ := own_slice ho
  simp only [Value.slice.injEq, true_and] at hv
  obtain ⟨rfl, rfl⟩ := hv
  have hbr := h.rd.blk.lt
  refine ⟨⟨⟨A8, m8, c8, _, h1, ⟨?_, ?_, fun ad e => ?_, hn, fun ad e => ?_⟩, fun ad e => ?_⟩, ?_, ?_, h3⟩, rb8⟩
  · simpa using rb8.set_ 0 (.slice A8 m8 c8)
  · exact (reads_row hrd (grown_set w8 br 0 _) (Nat.le_refl _) fun ad e h1 => by have := hbase ad e; injection h1; omega).more (by simp)
  · have := hbase ad e; omega
  · have := (ho.lt ad.block (by rw [e]; rfl)).2; simpa using this
  · intro hv
    have := (h.own.lt _ hv).2
    have := hbase ad e
    omega
  · exact own_set ho8 (own_ne_rdr ho8 rb8)
  · exact (h.below.grown hg (by omega) (fun k hk => by cases hk)).setCell hBr _
theorem app_run {R0 R : List Rn} {a : List At} {keep : Bool} {B br N j k m c : Nat} {p : Addr} {r : Rn} {v : Value} {w w7 : World} (hL : Left R0 (r :: R) j) (hk : k < (ptsL r).length) (h : Mid R0 a keep B br N j k p m c r R v w w7) (hBr : B ≤ br) (hR : R.length ≤ 100000000) :
    ∃ A8 m8 c8 w8, (Builtin.append_ #[30, 30] 30 #[.slice (some ⟨w7.heap.size, 0, none⟩) 1 1, .slice (if c = 1 then some p else some ⟨p.block, p.off + 4, none⟩) (m - 1) (c - 1)]).run Try.prog
      (w7.alloc (.cells #[.int .i64 r.c, .int .i64 r.s, .int .i64 (r.f + (k : Int)), .string ⟨(txt ((ptsL r).drop k)).toArray⟩] 37)).drew = .ok (.slice A8 m8 c8) w8 ∧
      TakeRel R0 a keep B br w (j + k) v (w8.setCell ⟨br, 0, none⟩ (.slice A8 m8 c8)) ∧ Blk w8 br 112 #[.slice (some p) m c] := by
  obtain ⟨i0, hi0, hz0, hz1, hz2⟩ := info_parts info_run
  have hm := rows_len h.rd.read
  simp only [List.length_cons] at hm
  have hrd7 := ((cut_reads h.rd).alloc (Nat.le_refl _) (.cells #[.int .i64 r.c, .int .i64 r.s, .int .i64 (r.f + (k : Int)), .string ⟨(txt ((ptsL r).drop k)).toArray⟩] 37)).drew
  have hlit := (World.ownsRow_lit (e := 37) (size := 4) (base := w7.heap.size) w7 #[.int .i64 r.c, .int .i64 r.s, .int .i64 (r.f + (k : Int)), .string ⟨(txt ((ptsL r).drop k)).toArray⟩] 1 (Nat.le_refl _) (by decide) rfl).drew
  obtain ⟨v8, w8, hrun, ho8, hg8, _⟩ := run_append_any (P := Try.prog) _ w7.heap.size 30 30 37 i0 _ 4 40 Try.underlying30 hi0 hz0 hz1 hz2 rfl (by decide) _ 1 _ hlit w7.heap.size _ (m - 1) (c - 1) _ hrd7 (rows_one R) (by simp only [maxLen]; omega) (by omega) (by simp)
  obtain ⟨A8, c8, rfl, hnc8, hcm8, hx8, hy8⟩ := own_slice ho8
  have hgr : w7.grownBy w8 none := grown_trans (only_of_below ((Below.refl w7.heap.size w7).alloc (Nat.le_refl _) _).drew none) hg8 (fun g e => .inr (by simp [Value.ownBlock] at e; omega))
  obtain ⟨hT, rb8⟩ := fin_part hL hk h hBr (show w8.ownsRow w7.heap.size 37 4 (.slice A8 (1 + (m - 1)) c8) (1 + (m - 1)) (rows (r.rest k :: R)) by rw [rows_cons]; exact ho8) hgr
  exact ⟨_, _, _, _, hrun, hT, rb8⟩
theorem fin_whole {R0 R : List Rn} {a : List At} {keep : Bool} {B br j m c : Nat} {p : Addr} {r : Rn} {v : Value} {w w3 : World} (hL : Left R0 (r :: R) j) (hR : Rdr w3 br (some p) m c (r :: R)) (hap : v.ownBlock ≠ some p.block)
    (how : OwnR w3 B v (runsOf (a ++ if keep = true then (atoms R0).take (j + (ptsL r).length) else []))) (hbl : Below B w w3) (hBr : B ≤ br) :
    TakeRel R0 a keep B br w (j + (ptsL r).length) v (w3.setCell ⟨br, 0, none⟩ (.slice (if c = 1 then some p else some ⟨p.block, p.off + 4, none⟩) (m - 1) (c - 1))) := by
  obtain ⟨h1, h2, h3⟩ := hL.whole
  refine ⟨⟨_, _, _, R, h1, hR.next, cut_block hap⟩, ?_, hbl.setCell hBr _, h3⟩
  exact World.ownsRow.kept how (grown_set w3 br 0 _) (.inr (own_ne_rdr how hR.blk))
set_option maxRecDepth 100000 in
set_option maxHeartbeats 8000000 in
theorem take_any (R0 : List Rn) (a : List At) (keep : Bool) (B br N : Nat) (v : Value) (w : World) (h0 : TakeRel R0 a keep B br w 0 v w) (hN : N ≤ (atoms R0).length) (hfa : Fit a) (hfR : Fit (atoms R0)) (hlen : a.length + (atoms R0).length ≤ 10000000) (hBr : B ≤ br) :
    Calls Try.prog 74 #[.pointer (some ⟨br, 0, none⟩), .int .i64 N, v, .bool keep] w fun e w' => ∃ v', e = .returned v' ∧ TakeRel R0 a keep B br w N v' w' := by
  have H0 := Lib.hid h0
  have HfR := Lib.hid hfR
  have HfA := Lib.hid hfa
  clear h0 hfR hfa
  go_enter Try.func74, Try.ntmps74
  go_wp2
  go_loopw [1, 2] (fun n' v wr => ∃ j : Nat, j ≤ N ∧ n' = .int .i64 ((N - j : Nat) : Int) ∧ TakeRel R0 a keep B br w j v wr) (fun n' _ _ => (intOf n').toNat)
  case atStart => exact ⟨0, Nat.zero_le _, by simp, H0.out⟩
  case round =>
    obtain ⟨wo, hwo⟩ : ∃ wo, wo = wr := ⟨_, rfl⟩
    subst hwo
    obtain ⟨j, hj, rfl, hrl⟩ := hrel
    obtain ⟨⟨A, m, c, R, hL, hR, hap⟩, how, hbl, hjl⟩ := hrl
    obtain ⟨k0, f0⟩ := rdr_cells hR.blk
    generalize hQ : N - j = Q
    by_cases hq : 0 < Q
    · have hlR := hL.le
      have hml := rows_len hR.read
      cases R with
      | nil => change 0 = _ at hlR; omega
      | cons r R' =>
        have hm : 0 < m := by rw [← hml]; simp
        obtain ⟨ad, p, r2, rfl, hp, hbk, hx, p1, p2, p3, p4⟩ := run_at hR.read hm
        have hr2 : r2 = r := by have := hx.out; simpa using this.symm
        subst hr2
        have hpa : p = ad := by rw [← hp]; simp [Addr.add]
        subst hpa
        have hv := hL.val r2 (by simp)
        have hfirst := val_size hv
        obtain ⟨hLw, htk, hjM⟩ := hL.whole
        have hMl := hv.lenR
        have hP := hv.ptsL
        have hpos := List.length_pos_iff.2 hP.2
        generalize hMM : (ptsL r2).length = M at hLw htk hjM hMl hfirst hpos
        have hLn := fun w => Text.len_any r2.t w (by omega)
        change ∀ w, Calls Try.prog 67 #[.string r2.t] w (Text.Num (lenR r2) w) at hLn
        rw [hMl] at hLn
        have HLn := Lib.hid hLn
        have hbr := hR.blk.lt
        have hQM : M < Q ∨ M = Q ∨ Q < M := by omega
        rcases hQM with hQM | hQM | hQM
        rotate_left 2
        · have hC := fun w => Text.cut_any r2.t 0 Q w (by omega)
          have hcut : Text.cutOf r2.t.data.toList 0 Q = (txt ((ptsL r2).take Q), 0) := by
            rw [Text.cut_good hP.1 (by omega)]
            simp
          rw [hcut] at hC
          have hC2 := fun w => Text.cut_any r2.t Q M w (by omega)
          have hcut2 : Text.cutOf r2.t.data.toList Q M = (txt ((ptsL r2).drop Q), 0) := by
            rw [Text.cut_good hP.1 (by omega)]
            simp [← hMM]
          rw [hcut2] at hC2
          have HC := Lib.hid hC
          have HC2 := Lib.hid hC2
          have HQ := Lib.hid hQ
          obtain ⟨hLp, htp, hjp⟩ := hL.part (k := Q) (by omega)
          have hQl : Q < (ptsL r2).length := by omega
          have hrf : 0 ≤ r2.f ∧ r2.f ≤ 1000000000 := by
            have hm0 : (⟨r2.c, r2.s, r2.f, (ptsL r2).getD 0 0⟩ : At) ∈ atoms R0 := by
              have h1 : (⟨r2.c, r2.s, r2.f, (ptsL r2).getD 0 0⟩ : At) ∈ atomsR r2 := by
                unfold atomsR
                exact List.mem_map.2 ⟨0, by simp; omega, by simp⟩
              have h2 : (⟨r2.c, r2.s, r2.f, (ptsL r2).getD 0 0⟩ : At) ∈ (atoms R0).drop j := by rw [← hL.eqn, atoms_cons]; exact List.mem_append_left _ h1
              exact List.mem_of_mem_drop h2
            have := HfR.out _ hm0
            simp only at this
            omega
          have HML := Lib.hid hml
          have HLR := Lib.hid hlR
          have HTP := Lib.hid htp
          have HPP := Lib.hid hP
          have HMM := Lib.hid hMM
          have HHL := Lib.hid hL
          have HHR := Lib.hid hR
          have HHO := Lib.hid how
          have HAP := Lib.hid hap
          have HRB := Lib.hid hR.blk
          have HV := Lib.hid hv
          have HPA := Lib.hid hR.apart
          have hml1 : R'.length + 1 = m := by rw [← hml]; rfl
          have hmc := hR.le
          have hRle : R'.length ≤ 100000000 := by
            have h1 := len_le_atoms hL.val
            rw [List.length_cons] at h1
            omega
          clear hcut hC hcut2 hC2 hLn hMl hml hlR htk htp hP hMM hL hLp hR how hLw hap hv hp hjM
          cases keep with
          | false =>
            go_wp2_with (first
            | (go_at_call 67; refine (HLn.out _).mono ?_; rintro e w2 ⟨rfl, hb2⟩; have kb2 := (Blk.new wo 37 #[.int .i64 r2.c, .int .i64 r2.s, .int .i64 r2.f, .string r2.t]).below hb2 (by simp); obtain ⟨c1, c2, c3, c4, f2, f3⟩ := run_cells kb2; have hbb2 : Below wo.heap.size wo w2 := ((Below.refl _ _).alloc (Nat.le_refl _) _).trans (hb2.mono (by simp)); have rb2 := HRB.out.below hbb2 hbr; obtain ⟨k2, g2⟩ := rdr_cells rb2)
            | (go_at_call 109; (with_reducible refine (HC.out _).mono ?_); rintro e w3 ⟨rfl, hb3⟩; have kb3 := kb2.below hb3 kb2.lt; obtain ⟨d1, d2, d3, d4, f4, f5⟩ := run_cells kb3; have hbb3 := below_next hbb2 hb3 hbb2.size; have rb3 := HRB.out.below hbb3 hbr; obtain ⟨k3, g3⟩ := rdr_cells rb3)
            | (go_at_call 109; (with_reducible refine (HC2.out _).mono ?_); rintro e w6 ⟨rfl, hb6⟩; have kb6 := (blk_f kb3 (.int .i64 (r2.f + (Q : Int)))).below hb6 (blk_f kb3 (.int .i64 (r2.f + (Q : Int)))).lt; have f6 := kb6.frozen 3; have y6 := kb6.cell 3))
            have hMid : Mid R0 a false B br wo.heap.size j Q p m c r2 R' u2 w (w6.setCell ⟨wo.heap.size, 3, none⟩ (.string ⟨(txt ((ptsL r2).drop Q)).toArray⟩)) := by
              have ho3 : OwnR w3 B u2 (runsOf (a ++ if false = true then (atoms R0).take (j + Q) else [])) := by
                have h := HHO.out
                simp only [Bool.false_eq_true, if_false] at h ⊢
                exact own_below h hbb3
              exact mid_of kb3 (HHR.out.below hbb3) ho3 (HAP.out p rfl) (below_next hbl hbb3 (by omega)) (by omega) (by omega) (fun h => by have := (HHO.out.lt _ h).2; omega) (by omega) hb6
            clear kb3 kb6 f6 y6 d1 d2 d3 d4 f4 f5 hb6 hb3 hb2 kb2 c1 c2 c3 c4 f2 f3 k2 g2 k3 g3 hbb3 hbb2 rb2 rb3
            generalize w6.setCell ⟨wo.heap.size, 3, none⟩ (.string ⟨(txt ((ptsL r2).drop Q)).toArray⟩) = w7 at hMid ⊢
            have HM := Lib.hid hMid
            obtain ⟨e1, e2, e3, e4, _, _⟩ := run_cells hMid.kb
            obtain ⟨k7, g7⟩ := rdr_cells hMid.rd.blk
            have hbr7 := hMid.rd.blk.lt
            have hn7 := hMid.kb.lt
            obtain ⟨A8, m8, c8, w8, hrun, hT, rb8⟩ := app_run HHL.out hQl hMid hBr hRle
            obtain ⟨k8, g8⟩ := rdr_cells rb8
            have HT := Lib.hid hT
            have hjM := hT.jl
            simp only [Rn.rest] at e1 e2 e3 e4
            clear hMid hT HM
            have HRUN := Lib.hid hrun
            have z1 : (1 : Int) ≤ (m : Int) := by omega
            have z2 : (m : Int) ≤ (c : Int) := by omega
            have z3 : 1 ≤ m := by omega
            clear hrun
            by_cases hc1 : c = 1
            · subst hc1
              obtain rfl : m = 1 := by omega
              have hrun := HRUN.out
              simp only [if_true, Nat.sub_self] at hrun
              have HR2 := Lib.hid hrun
              clear hrun
              go_region_law (refine step_run (v := .slice (some ⟨w7.heap.size, 0, none⟩) 1 1) (y := .slice (some p) 0 0) rfl (.tmp 82) (.tmp 87) 30 rfl (by simp [Act.eval, Act.put]) (by simp [Act.eval, Act.put]) HR2.out ?_)
              all_goals
                go_wp2
                go_roundw
                case rel => exact ⟨j + Q, by have := HQ.out; omega, by have := HQ.out; congr 1; omega, HT.out⟩
                case measure => simp [intOf]; omega
            · have hrun := HRUN.out
              simp only [if_neg hc1] at hrun
              have HR2 := Lib.hid hrun
              clear hrun
              go_region_law (refine step_run (v := .slice (some ⟨w7.heap.size, 0, none⟩) 1 1) (y := .slice (some ⟨p.block, p.off + 4, none⟩) (m - 1) (c - 1)) rfl (.tmp 82) (.tmp 87) 30 rfl (by simp [Act.eval, Act.put]) (by simp [Act.eval, Act.put]) HR2.out ?_)
              all_goals
                go_wp2
                go_roundw
                case rel => exact ⟨j + Q, by have := HQ.out; omega, by have := HQ.out; congr 1; omega, HT.out⟩
                case measure => simp [intOf]; omega
          | true =>
            have hfit' : Fit (a ++ (atoms R0).take j) := HfA.out.append (HfR.out.take j)
            have hle' : (a ++ (atoms R0).take j).length ≤ 10000000 := by rw [List.length_append, List.length_take]; omega
            have hvh := (val_head HV.out (k := Q) (by omega)).1
            have heq : addD (runsOf (a ++ (atoms R0).take j)) (r2.pre ((ptsL r2).take Q)) = runsOf (a ++ (atoms R0).take (j + Q)) := by
              rw [addD_runs hfit'.pt hvh, atoms_head HV.out (by omega) (by omega), ← HTP.out, List.append_assoc, ← take_add_drop]
            have hhs : (r2.pre ((ptsL r2).take Q)).t.size ≤ 1000000000000 := by
              have h1 := val_size hvh
              rw [(val_head HV.out (k := Q) (by omega)).2, List.length_take] at h1
              omega
            have hadd : ∀ w3, Below wo.heap.size wo w3 → Calls Try.prog 73 #[u2, (r2.pre ((ptsL r2).take Q)).val] w3 (AddRes w3 B u2 (addD (runsOf (a ++ (atoms R0).take j)) (r2.pre ((ptsL r2).take Q)))) := fun w3 hb => add_any u2 B _ _ w3 (own_below (by have h := HHO.out; simp only [if_true] at h; exact h) hb) (by have := hb.size; omega) (Nat.le_trans (runs_len_le _) (by omega)) (hfit'.runs (by omega)) hhs
            rw [heq] at hadd
            change ∀ w3, Below wo.heap.size wo w3 → Calls Try.prog 73 #[u2, .agg #[.int .i64 r2.c, .int .i64 r2.s, .int .i64 r2.f, .string ⟨(txt ((ptsL r2).take Q)).toArray⟩]] w3 _ at hadd
            have HADD := Lib.hid hadd
            have hX := HHO.out
            clear hfit' hle' heq hadd hvh hhs
            have HXX := Lib.hid hX
            clear hX
            go_wp2_with (first
            | (go_at_call 67; refine (HLn.out _).mono ?_; rintro e w2 ⟨rfl, hb2⟩; have kb2 := (Blk.new wo 37 #[.int .i64 r2.c, .int .i64 r2.s, .int .i64 r2.f, .string r2.t]).below hb2 (by simp); obtain ⟨c1, c2, c3, c4, f2, f3⟩ := run_cells kb2; have hbb2 : Below wo.heap.size wo w2 := ((Below.refl _ _).alloc (Nat.le_refl _) _).trans (hb2.mono (by simp)); have rb2 := HRB.out.below hbb2 hbr; obtain ⟨k2, g2⟩ := rdr_cells rb2)
            | (go_at_call 109; (with_reducible refine (HC.out _).mono ?_); rintro e w3 ⟨rfl, hb3⟩; have kb3 := kb2.below hb3 kb2.lt; obtain ⟨d1, d2, d3, d4, f4, f5⟩ := run_cells kb3; have hbb3 := below_next hbb2 hb3 hbb2.size; have rb3 := HRB.out.below hbb3 hbr; obtain ⟨k3, g3⟩ := rdr_cells rb3)
            | (go_at_call 73; refine (HADD.out _ hbb3).mono ?_; rintro e w4 ⟨v4, rfl, ho4, hg4⟩; have hR4 := (HHR.out.below hbb3).grown (own_below HXX.out hbb3) hg4.1 HAP.out; obtain ⟨k4, g4⟩ := rdr_cells hR4.blk; have kb4 := kb3.grown hg4.1 (fun h => by have := (HXX.out.lt _ h.symm).2; omega); obtain ⟨x1, x2, x3, x4, x5, x6⟩ := run_cells kb4)
            | (go_at_call 109; (with_reducible refine (HC2.out _).mono ?_); rintro e w6 ⟨rfl, hb6⟩; have kb6 := (blk_f kb4 (.int .i64 (r2.f + (Q : Int)))).below hb6 (blk_f kb4 (.int .i64 (r2.f + (Q : Int)))).lt; have f6 := kb6.frozen 3; have y6 := kb6.cell 3))
            have hap4 : v4.ownBlock ≠ some p.block := fun h => by
              rcases hg4.2 _ h with h1 | h1
              · exact HAP.out p rfl h1
              · have := hbb3.size; omega
            have hbl4 : Below B w w4 := hg4.below (below_next hbl hbb3 (by omega)) (by have := hbb3.size; omega) (fun g hg => ((own_below HXX.out hbb3).lt g hg).1)
            have hMid : Mid R0 a true B br wo.heap.size j Q p m c r2 R' v4 w (w6.setCell ⟨wo.heap.size, 3, none⟩ (.string ⟨(txt ((ptsL r2).drop Q)).toArray⟩)) := by
              have hN4 : v4.ownBlock ≠ some wo.heap.size := fun h => by
                rcases hg4.2 _ h with h1 | h1
                · have := (HXX.out.lt _ h1).2; omega
                · have := kb3.lt; omega
              exact mid_of kb4 hR4 (by simp only [if_true]; exact ho4) hap4 hbl4 (by omega) (by omega) hN4 (by omega) hb6
            clear kb3 kb6 f6 y6 d1 d2 d3 d4 f4 f5 hb6 hb3 hb2 kb2 c1 c2 c3 c4 f2 f3 k2 g2 k3 g3 hbb3 hbb2 rb2 rb3 kb4 x1 x2 x3 x4 x5 x6 k4 g4 hg4 ho4 hR4 hap4 hbl4
            generalize w6.setCell ⟨wo.heap.size, 3, none⟩ (.string ⟨(txt ((ptsL r2).drop Q)).toArray⟩) = w7 at hMid ⊢
            have HM := Lib.hid hMid
            obtain ⟨e1, e2, e3, e4, _, _⟩ := run_cells hMid.kb
            obtain ⟨k7, g7⟩ := rdr_cells hMid.rd.blk
            have hbr7 := hMid.rd.blk.lt
            have hn7 := hMid.kb.lt
            obtain ⟨A8, m8, c8, w8, hrun, hT, rb8⟩ := app_run HHL.out hQl hMid hBr hRle
            obtain ⟨k8, g8⟩ := rdr_cells rb8
            have HT := Lib.hid hT
            have hjM := hT.jl
            simp only [Rn.rest] at e1 e2 e3 e4
            clear hMid hT HM
            have HRUN := Lib.hid hrun
            have z1 : (1 : Int) ≤ (m : Int) := by omega
            have z2 : (m : Int) ≤ (c : Int) := by omega
            have z3 : 1 ≤ m := by omega
            clear hrun
            by_cases hc1 : c = 1
            · subst hc1
              obtain rfl : m = 1 := by omega
              have hrun := HRUN.out
              simp only [if_true, Nat.sub_self] at hrun
              have HR2 := Lib.hid hrun
              clear hrun
              go_region_law (refine step_run (v := .slice (some ⟨w7.heap.size, 0, none⟩) 1 1) (y := .slice (some p) 0 0) rfl (.tmp 82) (.tmp 87) 30 rfl (by simp [Act.eval, Act.put]) (by simp [Act.eval, Act.put]) HR2.out ?_)
              all_goals
                go_wp2
                go_roundw
                case rel => exact ⟨j + Q, by have := HQ.out; omega, by have := HQ.out; congr 1; omega, HT.out⟩
                case measure => simp [intOf]; omega
            · have hrun := HRUN.out
              simp only [if_neg hc1] at hrun
              have HR2 := Lib.hid hrun
              clear hrun
              go_region_law (refine step_run (v := .slice (some ⟨w7.heap.size, 0, none⟩) 1 1) (y := .slice (some ⟨p.block, p.off + 4, none⟩) (m - 1) (c - 1)) rfl (.tmp 82) (.tmp 87) 30 rfl (by simp [Act.eval, Act.put]) (by simp [Act.eval, Act.put]) HR2.out ?_)
              all_goals
                go_wp2
                go_roundw
                case rel => exact ⟨j + Q, by have := HQ.out; omega, by have := HQ.out; congr 1; omega, HT.out⟩
                case measure => simp [intOf]; omega
        all_goals
          try subst hQM
          have hC := fun w => Text.cut_any r2.t 0 M w (by omega)
          have hcut : Text.cutOf r2.t.data.toList 0 M = (txt (ptsL r2), 0) := by
            rw [Text.cut_good hP.1 (by omega)]
            simp [← hMM]
          rw [hcut, pts_back hP.1] at hC
          have HC := Lib.hid hC
          have HQ := Lib.hid hQ
          have HML := Lib.hid hml
          have HLR := Lib.hid hlR
          have HTK := Lib.hid htk
          have HPP := Lib.hid hP
          have HMM := Lib.hid hMM
          have HHL := Lib.hid hL
          have HHR := Lib.hid hR
          have HHO := Lib.hid how
          have HLW := Lib.hid hLw
          have HAP := Lib.hid hap
          have HRB := Lib.hid hR.blk
          have HV := Lib.hid hv
          clear hcut hC hLn hMl hml hlR htk hP hMM hL hR how hLw hap hv hp hjM
          cases keep with
          | false =>
            go_wp2_with (first
            | (go_at_call 67; refine (HLn.out _).mono ?_; rintro e w2 ⟨rfl, hb2⟩; have kb2 := (Blk.new wo 37 #[.int .i64 r2.c, .int .i64 r2.s, .int .i64 r2.f, .string r2.t]).below hb2 (by simp); obtain ⟨c1, c2, c3, c4, f2, f3⟩ := run_cells kb2; have hbb2 : Below wo.heap.size wo w2 := ((Below.refl _ _).alloc (Nat.le_refl _) _).trans (hb2.mono (by simp)); have rb2 := HRB.out.below hbb2 hbr; obtain ⟨k2, g2⟩ := rdr_cells rb2)
            | (go_at_call 109; refine (HC.out _).mono ?_; rintro e w3 ⟨rfl, hb3⟩; have kb3 := kb2.below hb3 kb2.lt; obtain ⟨d1, d2, d3, d4, f4, f5⟩ := run_cells kb3; have hbb3 := below_next hbb2 hb3 hbb2.size; have rb3 := HRB.out.below hbb3 hbr; obtain ⟨k3, g3⟩ := rdr_cells rb3))
            have hfin : TakeRel R0 a false B br w (j + M) u2 (w3.setCell ⟨br, 0, none⟩ (.slice (if c = 1 then some p else some ⟨p.block, p.off + 4, none⟩) (m - 1) (c - 1))) := by
              have ho3 : OwnR w3 B u2 (runsOf (a ++ if false = true then (atoms R0).take (j + (ptsL r2).length) else [])) := by
                have h := HHO.out
                simp only [Bool.false_eq_true, if_false] at h ⊢
                exact own_below h hbb3
              have h := fin_whole (w := w) HHL.out (HHR.out.below hbb3) (HAP.out p rfl) ho3 (below_next hbl hbb3 (by omega)) hBr
              rw [HMM.out] at h
              exact h
            have HF := Lib.hid hfin
            have hjM := hfin.jl
            clear hfin
            go_roundw
            case rel => exact ⟨j + M, by have := HQ.out; omega, by have := HQ.out; congr 1; omega, HF.out⟩
            case measure => simp [intOf]; omega
          | true =>
            have hfit' : Fit (a ++ (atoms R0).take j) := HfA.out.append (HfR.out.take j)
            have hle' : (a ++ (atoms R0).take j).length ≤ 10000000 := by rw [List.length_append, List.length_take]; omega
            have heq : addD (runsOf (a ++ (atoms R0).take j)) r2 = runsOf (a ++ (atoms R0).take (j + M)) := by
              rw [addD_runs hfit'.pt HV.out, ← HTK.out, List.append_assoc, ← take_add_drop]
            have hadd : ∀ w3, Below wo.heap.size wo w3 → Calls Try.prog 73 #[u2, r2.val] w3 (AddRes w3 B u2 (addD (runsOf (a ++ (atoms R0).take j)) r2)) := fun w3 hb => add_any u2 B _ r2 w3 (own_below (by have h := HHO.out; simp only [if_true] at h; exact h) hb) (by have := hb.size; omega) (Nat.le_trans (runs_len_le _) (by omega)) (hfit'.runs (by omega)) (by omega)
            rw [heq] at hadd
            change ∀ w3, Below wo.heap.size wo w3 → Calls Try.prog 73 #[u2, .agg #[.int .i64 r2.c, .int .i64 r2.s, .int .i64 r2.f, .string ⟨r2.t.data⟩]] w3 _ at hadd
            have HADD := Lib.hid hadd
            have hX := HHO.out
            clear hfit' hle' heq hadd
            have HXX := Lib.hid hX
            clear hX
            go_wp2_with (first
            | (go_at_call 67; refine (HLn.out _).mono ?_; rintro e w2 ⟨rfl, hb2⟩; have kb2 := (Blk.new wo 37 #[.int .i64 r2.c, .int .i64 r2.s, .int .i64 r2.f, .string r2.t]).below hb2 (by simp); obtain ⟨c1, c2, c3, c4, f2, f3⟩ := run_cells kb2; have hbb2 : Below wo.heap.size wo w2 := ((Below.refl _ _).alloc (Nat.le_refl _) _).trans (hb2.mono (by simp)); have rb2 := HRB.out.below hbb2 hbr; obtain ⟨k2, g2⟩ := rdr_cells rb2)
            | (go_at_call 109; refine (HC.out _).mono ?_; rintro e w3 ⟨rfl, hb3⟩; have kb3 := kb2.below hb3 kb2.lt; obtain ⟨d1, d2, d3, d4, f4, f5⟩ := run_cells kb3; have hbb3 := below_next hbb2 hb3 hbb2.size; have rb3 := HRB.out.below hbb3 hbr; obtain ⟨k3, g3⟩ := rdr_cells rb3)
            | (go_at_call 73; refine (HADD.out _ hbb3).mono ?_; rintro e w4 ⟨v4, rfl, ho4, hg4⟩; have hR4 := (HHR.out.below hbb3).grown (own_below HXX.out hbb3) hg4.1 HAP.out; obtain ⟨k4, g4⟩ := rdr_cells hR4.blk))
            have hap4 : v4.ownBlock ≠ some p.block := fun h => by
              rcases hg4.2 _ h with h1 | h1
              · exact HAP.out p rfl h1
              · have := hbb3.size; omega
            have hbl4 : Below B w w4 := hg4.below (below_next hbl hbb3 (by omega)) (by have := hbb3.size; omega) (fun g hg => ((own_below HXX.out hbb3).lt g hg).1)
            have hfin : TakeRel R0 a true B br w (j + M) v4 (w4.setCell ⟨br, 0, none⟩ (.slice (if c = 1 then some p else some ⟨p.block, p.off + 4, none⟩) (m - 1) (c - 1))) := by
              have ho5 : OwnR w4 B v4 (runsOf (a ++ if true = true then (atoms R0).take (j + (ptsL r2).length) else [])) := by
                simp only [if_true]
                rw [HMM.out]
                exact ho4
              have h := fin_whole (w := w) HHL.out hR4 hap4 ho5 hbl4 hBr
              rw [HMM.out] at h
              exact h
            have HF := Lib.hid hfin
            have hjM := hfin.jl
            clear hfin
            go_roundw
            case rel => exact ⟨j + M, by have := HQ.out; omega, by have := HQ.out; congr 1; omega, HF.out⟩
            case measure => simp [intOf]; omega
    · have hjN : j = N := by omega
      subst hjN
      have hT : TakeRel R0 a keep B br w j u2 wo := ⟨⟨A, m, c, R, hL, hR, hap⟩, how, hbl, hjl⟩
      have HT := Lib.hid hT
      have hQ0 : Q = 0 := by omega
      subst hQ0
      clear hL hR how hap hbl hT
      go_wp2
      go_ret
      exact ⟨_, rfl, HT.out⟩
end Go.Proofs.Ytdhpbfmamkndjaa.Doc
