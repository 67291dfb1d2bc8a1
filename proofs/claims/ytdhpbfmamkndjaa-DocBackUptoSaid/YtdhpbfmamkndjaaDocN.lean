/- Plain: the document of atoms (oxbowref12.Runs), and what doc.add makes of runs. No program in sight. -/
import Derived.Test.YtdhpbfmamkndjaaDocL
namespace Go.Proofs.Ytdhpbfmamkndjaa.Doc
open Go.RowKit Ox
set_option linter.unusedVariables false
set_option linter.unusedSimpArgs false
theorem snoc_ind {α : Type} {P : List α → Prop} (h0 : P []) (hs : ∀ l x, P l → P (l ++ [x])) (l : List α) : P l := by
  have h : ∀ l : List α, P l.reverse := by
    intro l
    induction l with
    | nil => exact h0
    | cons x l ih => rw [List.reverse_cons]; exact hs _ _ ih
  have := h l.reverse
  rwa [List.reverse_reverse] at this
theorem nil_or_snoc {α : Type} (l : List α) : l = [] ∨ ∃ l0 q, l = l0 ++ [q] := by
  rcases List.eq_nil_or_concat l with h | ⟨L, b, h⟩
  · exact .inl h
  · exact .inr ⟨L, b, by simpa [List.concat_eq_append] using h⟩
/-- are these two neighbours within one run? -/
def glue (a b : At) : Bool := decide (a.c = b.c ∧ a.s = b.s ∧ a.n + 1 = b.n)
def encP (p : Int) : Bytes := if isPt p = true then enc p else []
def one (x : At) : Rn := ⟨x.c, x.s, x.n, ⟨(encP x.p).toArray⟩⟩
def Rn.more (r : Rn) (t : ByteArray) : Rn := ⟨r.c, r.s, r.f, r.t ++ t⟩
def appLast (l : List Rn) (t : ByteArray) : List Rn := match l.getLast? with | none => l | some r => l.dropLast ++ [r.more t]
def addA (rs : List Rn) (p : Option At) (x : At) : List Rn := match p with
  | some a => if glue a x = true then appLast rs ⟨(encP x.p).toArray⟩ else rs ++ [one x]
  | none => rs ++ [one x]
def rstep (st : List Rn × Option At) (x : At) : List Rn × Option At := (addA st.1 st.2 x, some x)
def runsOf (l : List At) : List Rn := (l.foldl rstep ([], none)).1
theorem runs_snd (l : List At) : (l.foldl rstep ([], none)).2 = l.getLast? := by
  refine snoc_ind (P := fun l => (l.foldl rstep ([], none)).2 = l.getLast?) rfl (fun l x _ => ?_) l
  rw [List.foldl_append, List.getLast?_append]
  rfl
theorem runs_nil : runsOf [] = [] := rfl
theorem runs_snoc (l : List At) (x : At) : runsOf (l ++ [x]) = addA (runsOf l) l.getLast? x := by
  unfold runsOf
  rw [List.foldl_append, ← runs_snd]
  rfl
theorem appLast_snoc (l : List Rn) (q : Rn) (t : ByteArray) : appLast (l ++ [q]) t = l ++ [q.more t] := by
  unfold appLast
  simp
theorem cat_data (a b : ByteArray) : (a ++ b).data.toList = a.data.toList ++ b.data.toList := by simp
theorem cat_assoc (a b c : ByteArray) : a ++ b ++ c = a ++ (b ++ c) := by
  apply ByteArray.ext
  simp [Array.append_assoc]
theorem pts_cat {a b : Bytes} {l m : List Int} (ha : pts a = some l) (hb : pts b = some m) : pts (a ++ b) = some (l ++ m) := by
  rw [← pts_back ha, ← pts_back hb, ← txt_append]
  exact pts_txt fun v hv => by
    rcases List.mem_append.1 hv with h | h
    · exact pts_valid ha v h
    · exact pts_valid hb v h
/-- a run with a text that is valid and not empty -/
def Val (r : Rn) : Prop := ∃ ps, pts r.t.data.toList = some ps ∧ ps ≠ []
theorem Val.ptsL {r : Rn} (h : Val r) : pts r.t.data.toList = some (ptsL r) ∧ ptsL r ≠ [] := by
  obtain ⟨ps, h1, h2⟩ := h
  have e : Doc.ptsL r = ps := by unfold Doc.ptsL; rw [h1]; rfl
  rw [e]
  exact ⟨h1, h2⟩
theorem Val.len {r : Rn} (h : Val r) : Text.lenOf r.t.data.toList = ((Doc.ptsL r).length : Int) := by
  unfold Text.lenOf
  rw [h.ptsL.1]
theorem Val.more {r x : Rn} (h : Val r) (hx : Val x) : Val (r.more x.t) ∧ Doc.ptsL (r.more x.t) = Doc.ptsL r ++ Doc.ptsL x := by
  have h1 := pts_cat h.ptsL.1 hx.ptsL.1
  have e : pts (r.more x.t).t.data.toList = some (Doc.ptsL r ++ Doc.ptsL x) := by
    show pts (r.t ++ x.t).data.toList = _
    rw [cat_data]
    exact h1
  refine ⟨⟨_, e, fun h2 => hx.ptsL.2 (List.append_eq_nil_iff.1 h2).2⟩, ?_⟩
  show (pts (r.more x.t).t.data.toList).getD [] = _
  rw [e]
  rfl
theorem val_one {x : At} (h : isPt x.p = true) : Val (one x) ∧ ptsL (one x) = [x.p] := by
  have e : pts (one x).t.data.toList = some [x.p] := by
    show pts (encP x.p) = _
    unfold encP
    rw [if_pos h]
    have := pts_enc h []
    rw [List.append_nil, pts_nil] at this
    exact this
  refine ⟨⟨_, e, by simp⟩, ?_⟩
  show (pts (one x).t.data.toList).getD [] = _
  rw [e]
  rfl
theorem atoms_one {x : At} (h : isPt x.p = true) : atomsR (one x) = [x] := by
  unfold atomsR
  rw [(val_one h).2]
  simp [one, List.range_succ]
theorem atomsR_more {r x : Rn} (h : Val r) (hx : Val x) (hf : folB r x = true) : atomsR (r.more x.t) = atomsR r ++ atomsR x := by
  have e := (h.more hx).2
  unfold folB at hf
  rw [decide_eq_true_eq, h.len] at hf
  obtain ⟨h1, h2, h3⟩ := hf
  unfold atomsR
  rw [e, List.length_append, List.range_add, List.map_append, List.map_map]
  congr 1
  · refine List.map_congr_left fun j hj => ?_
    have hj' : j < (ptsL r).length := by simpa using hj
    simp [Rn.more, List.getD, List.getElem?_append_left hj']
  · refine List.map_congr_left fun j hj => ?_
    simp only [Function.comp, Rn.more, At.mk.injEq, List.getD]
    refine ⟨h1, h2, by omega, ?_⟩
    rw [List.getElem?_append_right (by omega)]
    simp
/-- the last atom of a run -/
theorem atomsR_last {r : Rn} (h : Val r) : ∃ p, (atomsR r).getLast? = some ⟨r.c, r.s, r.f + (ptsL r).length - 1, p⟩ := by
  have hne := h.ptsL.2
  obtain ⟨n, hn⟩ : ∃ n, (ptsL r).length = n + 1 := ⟨(ptsL r).length - 1, by have := List.length_pos_iff.2 hne; omega⟩
  refine ⟨(ptsL r).getD n 0, ?_⟩
  unfold atomsR
  rw [hn, List.range_succ, List.map_append, List.getLast?_append]
  simp
  omega
structure Inv (a : List At) (R : List Rn) : Prop where
  atoms : atoms R = a
  val : ∀ r ∈ R, Val r
  apart : ∀ (i : Nat) (x y : Rn), R[i]? = some x → R[i + 1]? = some y → folB x y = false
theorem Inv.nil : Inv [] [] := ⟨rfl, fun r h => by simp at h, fun i x y h => by simp at h⟩
def addR (R : List Rn) (r : Rn) : List Rn := match R.getLast? with
  | some q => if folB q r = true then appLast R r.t else R ++ [r]
  | none => [r]
theorem addR_nil (r : Rn) : addR [] r = [r] := rfl
theorem addR_fol {R : List Rn} {q r : Rn} (h : folB q r = true) : addR (R ++ [q]) r = R ++ [q.more r.t] := by
  unfold addR
  simp [h, appLast_snoc]
theorem addR_new {R : List Rn} {q r : Rn} (h : folB q r = false) : addR (R ++ [q]) r = R ++ [q] ++ [r] := by
  unfold addR
  simp [h]
theorem atoms_snoc' (R : List Rn) (r : Rn) : atoms (R ++ [r]) = atoms R ++ atomsR r := by rw [atoms_append]; simp [atoms]
theorem apart_snoc {R : List Rn} {q : Rn} (h : ∀ (i : Nat) (x y : Rn), R[i]? = some x → R[i + 1]? = some y → folB x y = false) (hq : ∀ z, R.getLast? = some z → folB z q = false) :
    ∀ (i : Nat) (x y : Rn), (R ++ [q])[i]? = some x → (R ++ [q])[i + 1]? = some y → folB x y = false := by
  intro i x y hx hy
  rcases Nat.lt_or_ge (i + 1) R.length with hlt | hge
  · rw [List.getElem?_append_left (by omega)] at hx hy
    exact h i x y hx hy
  · have hl : i + 1 = R.length := by
      have := (List.getElem?_eq_some_iff.1 hy).1
      simp at this
      omega
    rw [List.getElem?_append_right (by omega), show i + 1 - R.length = 0 from by omega] at hy
    rw [List.getElem?_append_left (by omega)] at hx
    have e : q = y := by simpa using hy
    subst e
    refine hq x ?_
    rw [List.getLast?_eq_getElem?, ← hx]
    congr 1
    omega
theorem apart_init {R : List Rn} {q : Rn} (h : ∀ (i : Nat) (x y : Rn), (R ++ [q])[i]? = some x → (R ++ [q])[i + 1]? = some y → folB x y = false) :
    (∀ (i : Nat) (x y : Rn), R[i]? = some x → R[i + 1]? = some y → folB x y = false) ∧ (∀ z, R.getLast? = some z → folB z q = false) := by
  refine ⟨fun i x y hx hy => ?_, fun z hz => ?_⟩
  · have h1 := (List.getElem?_eq_some_iff.1 hx).1
    have h2 := (List.getElem?_eq_some_iff.1 hy).1
    exact h i x y (by rw [List.getElem?_append_left h1]; exact hx) (by rw [List.getElem?_append_left h2]; exact hy)
  · have hne : R ≠ [] := by rintro rfl; simp at hz
    have hp := List.length_pos_iff.2 hne
    rw [List.getLast?_eq_getElem?] at hz
    refine h (R.length - 1) z q ?_ ?_
    · rw [List.getElem?_append_left (by omega)]; exact hz
    · rw [List.getElem?_append_right (by omega), show R.length - 1 + 1 - R.length = 0 from by omega]; rfl
/-- one run more -/
theorem Inv.add {a : List At} {R : List Rn} {r : Rn} (h : Inv a R) (hr : Val r) : Inv (a ++ atomsR r) (addR R r) := by
  rcases nil_or_snoc R with rfl | ⟨R0, q, rfl⟩
  · refine ⟨?_, ?_, ?_⟩
    · rw [addR_nil, ← h.atoms]; simp [Doc.atoms]
    · rw [addR_nil]
      intro x hx
      have : x = r := by simpa using hx
      rw [this]; exact hr
    · rw [addR_nil]
      intro i x y _ hy
      simp at hy
  · have hq : Val q := h.val q (by simp)
    cases hf : folB q r with
    | true =>
      rw [addR_fol hf]
      refine ⟨?_, ?_, ?_⟩
      · rw [atoms_snoc', atomsR_more hq hr hf, ← h.atoms, atoms_snoc', List.append_assoc]
      · intro x hx
        rcases List.mem_append.1 hx with h1 | h1
        · exact h.val x (by simp [h1])
        · have : x = q.more r.t := by simpa using h1
          rw [this]
          exact (hq.more hr).1
      · have h2 := apart_init h.apart
        exact apart_snoc h2.1 fun z hz => (show folB z q = false from h2.2 z hz)
    | false =>
      rw [addR_new hf]
      refine ⟨?_, ?_, ?_⟩
      · rw [atoms_snoc', h.atoms]
      · intro x hx
        rcases List.mem_append.1 hx with h1 | h1
        · exact h.val x h1
        · have : x = r := by simpa using h1
          rw [this]; exact hr
      · exact apart_snoc h.apart fun z hz => by
          have : q = z := by simpa using hz
          rw [← this]; exact hf
theorem addA_addR {a : List At} {R : List Rn} (h : Inv a R) {x : At} (hx : isPt x.p = true) : addA R a.getLast? x = addR R (one x) := by
  rcases nil_or_snoc R with rfl | ⟨R0, q, rfl⟩
  · have : a = [] := by rw [← h.atoms]; rfl
    subst this
    rfl
  · obtain ⟨p, hp⟩ := atomsR_last (h.val q (by simp))
    have hl : a.getLast? = some ⟨q.c, q.s, q.f + (ptsL q).length - 1, p⟩ := by
      rw [← h.atoms, atoms_snoc', List.getLast?_append, hp]
      rfl
    rw [hl]
    have e : folB q (one x) = glue ⟨q.c, q.s, q.f + (ptsL q).length - 1, p⟩ x := by
      unfold folB glue
      rw [(h.val q (by simp)).len]
      simp only [one]
      congr 1
      simp only [eq_iff_iff]
      constructor <;> rintro ⟨h1, h2, h3⟩ <;> exact ⟨h1, h2, by omega⟩
    unfold addA
    simp only
    rw [← e]
    cases hf : folB q (one x) with
    | true => rw [if_pos rfl, addR_fol hf, appLast_snoc]; rfl
    | false => rw [if_neg (by simp), addR_new hf]
theorem runs_inv {a : List At} (h : ∀ x ∈ a, isPt x.p = true) : Inv a (runsOf a) := by
  revert h
  refine snoc_ind (P := fun a => (∀ x ∈ a, isPt x.p = true) → Inv a (runsOf a)) (fun _ => Inv.nil) (fun l x ih h => ?_) a
  have h1 := ih fun y hy => h y (List.mem_append_left _ hy)
  have hx := h x (by simp)
  rw [runs_snoc, addA_addR h1 hx]
  have := h1.add (val_one hx).1
  rwa [atoms_one hx] at this
theorem runs_snoc' {a : List At} (h : ∀ x ∈ a, isPt x.p = true) {x : At} (hx : isPt x.p = true) : runsOf (a ++ [x]) = addR (runsOf a) (one x) := by
  rw [runs_snoc, addA_addR (runs_inv h) hx]
/-- two runs, one behind the other, as one -/
theorem addR_two {R : List Rn} (hR : ∀ r ∈ R, Val r) {q x : Rn} (hq : Val q) (hx : Val x) (hf : folB q x = true) : addR (addR R q) x = addR R (q.more x.t) := by
  rcases nil_or_snoc R with rfl | ⟨R0, z, rfl⟩
  · rw [addR_nil, addR_nil]
    have := addR_fol (R := []) hf
    simpa using this
  · have hz : Val z := hR z (by simp)
    have e : folB z (q.more x.t) = folB z q := rfl
    cases h1 : folB z q with
    | true =>
      have e2 : addR (R0 ++ [z]) (q.more x.t) = R0 ++ [z.more (q.t ++ x.t)] := addR_fol (r := q.more x.t) (e.trans h1)
      rw [addR_fol h1, e2]
      have h2 : folB (z.more q.t) x = true := by
        have hl := (hz.more hq).1.len
        rw [(hz.more hq).2, List.length_append] at hl
        unfold folB at *
        rw [decide_eq_true_eq] at *
        rw [hl]
        rw [hz.len] at h1
        rw [hq.len] at hf
        obtain ⟨a1, a2, a3⟩ := h1
        obtain ⟨b1, b2, b3⟩ := hf
        exact ⟨a1.trans b1, a2.trans b2, by simp only [Rn.more]; omega⟩
      rw [addR_fol h2]
      simp [Rn.more, cat_assoc]
    | false =>
      have e2 : addR (R0 ++ [z]) (q.more x.t) = R0 ++ [z] ++ [q.more x.t] := addR_new (r := q.more x.t) (e.trans h1)
      rw [addR_new h1, e2, addR_fol hf]
/-- a run with the first code points alone -/
def Rn.pre (r : Rn) (ps : List Int) : Rn := ⟨r.c, r.s, r.f, ⟨(txt ps).toArray⟩⟩
theorem val_pre {r : Rn} {ps : List Int} (hv : ∀ v ∈ ps, isPt v = true) (hn : ps ≠ []) : Val (r.pre ps) ∧ ptsL (r.pre ps) = ps := by
  have e : pts (r.pre ps).t.data.toList = some ps := pts_txt hv
  refine ⟨⟨_, e, hn⟩, ?_⟩
  show (pts (r.pre ps).t.data.toList).getD [] = _
  rw [e]
  rfl
theorem runs_pre {a : List At} (h : ∀ x ∈ a, isPt x.p = true) (r : Rn) {ps : List Int} (hv : ∀ v ∈ ps, isPt v = true) (hn : ps ≠ []) : runsOf (a ++ atomsR (r.pre ps)) = addR (runsOf a) (r.pre ps) := by
  revert hv hn
  refine snoc_ind (P := fun ps => (∀ v ∈ ps, isPt v = true) → ps ≠ [] → runsOf (a ++ atomsR (r.pre ps)) = addR (runsOf a) (r.pre ps)) (fun _ h => absurd rfl h) (fun l v ih hv _ => ?_) ps
  have hv1 : ∀ u ∈ l, isPt u = true := fun u hu => hv u (List.mem_append_left _ hu)
  have hv2 : isPt v = true := hv v (by simp)
  rcases nil_or_snoc l with rfl | hc
  · have e : r.pre ([] ++ [v]) = one ⟨r.c, r.s, r.f, v⟩ := by
      unfold Rn.pre one encP
      simp [hv2, txt]
    rw [e, atoms_one (x := ⟨r.c, r.s, r.f, v⟩) hv2, runs_snoc' h (x := ⟨r.c, r.s, r.f, v⟩) hv2]
  · have hl : l ≠ [] := by obtain ⟨L, b, rfl⟩ := hc; simp
    have h1 := ih hv1 hl
    obtain ⟨hq, hql⟩ := val_pre (r := r) hv1 hl
    have hx := val_one (x := ⟨r.c, r.s, r.f + l.length, v⟩) hv2
    have hf : folB (r.pre l) (one ⟨r.c, r.s, r.f + l.length, v⟩) = true := by
      unfold folB
      rw [hq.len, hql, decide_eq_true_eq]
      exact ⟨rfl, rfl, rfl⟩
    have e : r.pre (l ++ [v]) = (r.pre l).more (one ⟨r.c, r.s, r.f + l.length, v⟩).t := by
      unfold Rn.pre Rn.more one encP
      simp only [Rn.mk.injEq, true_and]
      apply ByteArray.ext
      simp [hv2, txt]
    rw [e, atomsR_more hq hx.1 hf, atoms_one (x := ⟨r.c, r.s, r.f + l.length, v⟩) hv2, ← List.append_assoc, runs_snoc', h1, addR_two (runs_inv h).val hq hx.1 hf]
    · intro y hy
      rcases List.mem_append.1 hy with h2 | h2
      · exact h y h2
      · unfold atomsR at h2
        obtain ⟨j, hj, rfl⟩ := List.mem_map.1 h2
        rw [hql] at hj ⊢
        have hj' : j < l.length := by simpa using hj
        simp only [List.getD, List.getElem?_eq_getElem hj', Option.getD_some]
        exact hv1 _ (List.getElem_mem hj')
    · exact hv2
theorem Val.pre {r : Rn} (h : Val r) : r.pre (Doc.ptsL r) = r := by
  obtain ⟨h1, _⟩ := h.ptsL
  have := pts_back h1
  unfold Rn.pre
  rw [this]
/-- what add makes of a run that is valid -/
theorem runs_add {a : List At} (h : ∀ x ∈ a, isPt x.p = true) {r : Rn} (hr : Val r) : runsOf (a ++ atomsR r) = addR (runsOf a) r := by
  obtain ⟨h1, h2⟩ := hr.ptsL
  have := runs_pre h r (pts_valid h1) h2
  rwa [hr.pre] at this
theorem atomsR_pt {r : Rn} (h : Val r) : ∀ x ∈ atomsR r, isPt x.p = true := by
  intro x hx
  unfold atomsR at hx
  obtain ⟨j, hj, rfl⟩ := List.mem_map.1 hx
  have hj' : j < (ptsL r).length := by simpa using hj
  simp only [List.getD, List.getElem?_eq_getElem hj', Option.getD_some]
  exact pts_valid h.ptsL.1 _ (List.getElem_mem hj')
theorem atoms_pt {l : List Rn} (h : ∀ r ∈ l, Val r) : ∀ x ∈ atoms l, isPt x.p = true := by
  intro x hx
  obtain ⟨r, hr, hx⟩ := List.mem_flatMap.1 hx
  exact atomsR_pt (h r hr) x hx
/-- a document that has its least form is its atoms' document -/
theorem runs_atoms {l : List Rn} (hv : ∀ r ∈ l, Val r) (ha : ∀ (i : Nat) (x y : Rn), l[i]? = some x → l[i + 1]? = some y → folB x y = false) : runsOf (atoms l) = l := by
  revert hv ha
  refine snoc_ind (P := fun l => (∀ r ∈ l, Val r) → (∀ (i : Nat) (x y : Rn), l[i]? = some x → l[i + 1]? = some y → folB x y = false) → runsOf (atoms l) = l) (fun _ _ => rfl) (fun l r ih hv ha => ?_) l
  have hv1 : ∀ x ∈ l, Val x := fun x hx => hv x (List.mem_append_left _ hx)
  have h2 := apart_init ha
  rw [atoms_snoc', runs_add (atoms_pt hv1) (hv r (by simp)), ih hv1 h2.1]
  rcases nil_or_snoc l with rfl | ⟨R0, q, rfl⟩
  · rfl
  · rw [addR_new (h2.2 q (by simp))]
theorem okRun_val {r : Rn} (h : OkRun r) : Val r := by
  have := h.len
  unfold lenR Text.lenOf at this
  cases hp : pts r.t.data.toList with
  | none => rw [hp] at this; simp at this
  | some ps =>
    rw [hp] at this
    exact ⟨ps, hp, by rintro rfl; simp at this⟩
theorem Good.val {l : List Rn} (h : Good l) : ∀ r ∈ l, Val r := fun r hr => by
  obtain ⟨i, hi, rfl⟩ := List.getElem_of_mem hr
  exact okRun_val (h.runs i _ (List.getElem?_eq_getElem hi))
theorem Good.runs_ {l : List Rn} (h : Good l) : runsOf (atoms l) = l := runs_atoms h.val h.apart
theorem Val.lenR {r : Rn} (h : Val r) : Doc.lenR r = ((Doc.ptsL r).length : Int) := h.len
/-- which atoms' document may be -/
theorem good_of {a : List At} (hp : ∀ x ∈ a, isPt x.p = true) (ho : ∀ x ∈ a, orgB x.c x.s = true) (hn : ∀ x ∈ a, 0 ≤ x.n ∧ x.n ≤ 999) (hd : (a.map At.nm).Nodup) (hf : a.length ≤ 1000) : Good (runsOf a) := by
  have hi := runs_inv hp
  refine ⟨fun i r hr => ?_, hi.apart, ?_, ?_⟩
  · have hm := List.mem_of_getElem? hr
    have hv := hi.val r hm
    have hsub : ∀ x ∈ atomsR r, x ∈ a := fun x hx => by rw [← hi.atoms]; exact List.mem_flatMap.2 ⟨r, hm, hx⟩
    obtain ⟨p, hl⟩ := atomsR_last hv
    have hlast := hsub _ (List.mem_of_getLast? hl)
    have h0 := hn _ hlast
    have hne := List.length_pos_iff.2 hv.ptsL.2
    have hfirst : (⟨r.c, r.s, r.f, (ptsL r).getD 0 0⟩ : At) ∈ atomsR r := by
      unfold atomsR
      exact List.mem_map.2 ⟨0, by simpa using hne, by simp⟩
    have h1 := hn _ (hsub _ hfirst)
    simp only at h0 h1
    exact ⟨ho _ hlast, by rw [hv.lenR]; omega, h1.1, h1.2, by rw [hv.lenR]; omega⟩
  · rw [← atoms_nm, hi.atoms]; exact hd
  · rw [← atoms_nm, hi.atoms, List.length_map]; exact hf
end Go.Proofs.Ytdhpbfmamkndjaa.Doc
