/- The second half of Region: the walk of the text's order speaks for every order that the region may draw. -/
import Derived.Test.YtdhpbfmamkndjaaRegion
namespace Ox
open Go
section
variable {P : Program} {ops : Array Oper} {Q : Exit → Act → World → Prop}

/-! ### reads -/
def Keeps (P : Program) {α : Type} (s : Sem α) : Prop := ∀ w r w1, s.run P w = .ok r w1 → w1 = w
theorem Steady.keeps {α : Type} {s : Sem α} (h : Steady P s) : Keeps P s := fun w r w1 hr => (h w r w1 hr).1
theorem Keeps.bind {α β : Type} {s : Sem α} {f : α → Sem β} (h : Keeps P s) (hf : ∀ x, Keeps P (f x)) : Keeps P (s >>= f) := fun w r w1 hr => by
  rw [Sem.run_bind] at hr
  cases hs : s.run P w with
  | halt x w2 => rw [hs] at hr; simp at hr
  | ok x w2 =>
    rw [hs] at hr
    simp only [Result.andThen_ok] at hr
    obtain rfl := h _ _ _ hs
    exact hf x _ _ _ hr
theorem Keeps.load (a : Addr) : Keeps P (Go.load a) := fun w r w1 hr => by
  simp only [Go.load, Sem.run] at hr
  split at hr
  · simp only [Result.ok.injEq] at hr; exact hr.2.symm
  · split at hr
    · simp only [Result.ok.injEq] at hr; exact hr.2.symm
    · simp at hr
theorem Keeps.loadCellsFrom (a : Addr) : ∀ (n i : Nat) (acc : Array Value), Keeps P (Go.loadCellsFrom a i n acc)
  | 0, _, _ => (Steady.pure _).keeps
  | n + 1, i, acc => (Keeps.load _).bind fun v => Keeps.loadCellsFrom a n (i + 1) (acc.push v)
theorem Keeps.loadAt (t : TypeId) (v : Value) : Keeps P (Instr.loadAt t v) := by
  unfold Instr.loadAt Go.loadVar
  refine (Steady.sureAddr v).keeps.bind fun a => (Steady.isAgg t).keeps.bind fun b => ?_
  split
  · exact (Steady.sizeOf t).keeps.bind fun n => (Keeps.loadCellsFrom a n 0 #[]).bind fun _ => (Steady.pure _).keeps
  · exact Keeps.load a
def isLoad : Op → Bool | .load .. => true | _ => false
theorem load_keeps {o : Oper} {ρ : Operand → Value} (hl : isLoad o.op = true) : ∀ w r w1, (execOp ρ o).run P w = .ok r w1 → w1 = w ∧ ∃ v, r = .value v := by
  intro w r w1 hr
  obtain ⟨dst, op, type, pos, after, guard⟩ := o
  cases op <;> simp only [isLoad, Bool.false_eq_true] at hl
  case load t x =>
    unfold execOp at hr
    dsimp only at hr
    rw [Sem.run_bind] at hr
    cases he : (Instr.loadAt t (ρ x)).run P w with
    | ok b w2 =>
      rw [he] at hr
      simp only [Result.andThen_ok, Sem.run_pure, Result.ok.injEq] at hr
      obtain ⟨rfl, rfl⟩ := hr
      exact ⟨Keeps.loadAt _ _ _ _ _ he, _, rfl⟩
    | halt b w2 => rw [he] at hr; simp at hr

/-! ### the check -/
def dynOp : Op → Bool | .binOp .. | .convert .. | .nilCheck _ => true | _ => false
theorem dynB_of_not {ρ : Operand → Value} {op : Op} (h : dynOp op = false) : dynB ρ op = true := by cases op <;> first | rfl | cases h
def readB (P : Program) (op : Op) : Bool := lightB P op || isLoad op
def okPair (P : Program) (ops : Array Oper) (x y : Oper) : Bool := x.apart ops y && (lightB P x.op || lightB P y.op || (readB P x.op && readB P y.op))
def edgesOf (B : Array Nat) (o : Oper) : Nat := o.after.foldl (fun s e => if Region.binds .any e then s ||| 2 ^ e.on ||| B.getD e.on 0 else s) 0
def rowB (P : Program) (ops : Array Oper) (B : Array Nat) (i : Nat) : Bool :=
  match ops[i]? with
  | none => false
  | some oi =>
    Nat.beq (B.getD i 0) (edgesOf B oi) && oi.after.all (fun e => !Region.binds .any e || Nat.blt e.on i) &&
    (List.range i).all (fun j => (B.getD i 0).testBit j || match ops[j]? with | none => false | some oj => okPair P ops oi oj) &&
    (!dynOp oi.op || (List.range ops.size).all fun k => Nat.blt k i || match ops[k]? with | none => true | some ok => match ok.dst with | some d => !(oi.looksAt ops).contains d | none => true)
def textB (P : Program) (ops : Array Oper) : Bool := Region.noSelect ops && (List.range ops.size).all (rowB P ops (Region.before ops))
def plainB (ops : Array Oper) (a : Act) : Bool := ops.all fun o => !Region.wanted o (yielded ops a.tmps) || dynB a.eval o.op
/-- The end of the walk: no panic, nothing outgrown; the operands' values as asked. -/
def FinQ (ops : Array Oper) (Q : Exit → Act → World → Prop) : Exit → Act → World → Prop := Exit.then (fun a w => plainB ops a = true ∧ Q .normal a w) (fun _ _ _ => False)

theorem FinQ.imp {e : Exit} {a : Act} {w : World} (h : FinQ ops Q e a w) : Q e a w := by
  cases e <;> first | exact h.2 | exact (h : False).elim
theorem FinQ.intro {a : Act} {w : World} (h : plainB ops a = true) (h' : Q .normal a w) : FinQ ops Q .normal a w := ⟨h, h'⟩
theorem FinQ.noOut : ¬ LetsOut (FinQ ops Q) := fun ⟨_, _, h⟩ => h

/-! ### one operation -/
structure Rel (dst : Option Tmp) (a a' : Act) : Prop where
  ex : ∃ u ds, a' = ({ a with defers := ds } : Act).put dst u
theorem Rel.eval {dst : Option Tmp} {a a' : Act} (h : Rel dst a a') {o : Oper} (hs : ∀ cs b, o.op ≠ .select cs b) (hd : ∀ d, dst = some d → d ∉ o.looksAt ops) : execOp a'.eval o = execOp a.eval o := by
  obtain ⟨u, ds, rfl⟩ := h
  rw [execOp_put o hs _ dst u hd]
  rfl
theorem Rel.wanted {dst : Option Tmp} {a a' : Act} (h : Rel dst a a') {o : Oper} (hd : ∀ d, dst = some d → d ∉ o.looksAt ops) : Region.wanted o (yielded ops a'.tmps) = Region.wanted o (yielded ops a.tmps) := by
  obtain ⟨u, ds, rfl⟩ := h
  rw [wanted_put o _ dst u hd]
theorem dynB_congr {ρ ρ' : Operand → Value} {op : Op} (h : ∀ x ∈ op.operands, ρ x = ρ' x) : dynB ρ op = dynB ρ' op := by
  cases op <;> try rfl
  case binOp o t x y yt =>
    have hx := h x (by simp [Op.operands])
    have hy := h y (by simp [Op.operands])
    simp only [dynB, hx, hy]
  case convert s d x => simp only [dynB, h x (by simp [Op.operands])]
  case nilCheck x => simp only [dynB, h x (by simp [Op.operands])]
theorem Rel.dyn {dst : Option Tmp} {a a' : Act} (h : Rel dst a a') {o : Oper} (hd : ∀ d, dst = some d → d ∉ o.looksAt ops) : dynB a'.eval o.op = dynB a.eval o.op := by
  obtain ⟨u, ds, rfl⟩ := h
  refine dynB_congr fun x hx => Act.eval_put fun d hdd hxd => hd d hdd ?_
  subst hxd
  exact List.mem_append_left _ (List.mem_filterMap.2 ⟨.tmp d, by simpa using hx, rfl⟩)
theorem wpOp_ex {j : Nat} {oj : Oper} (hj : ops[j]? = some oj) {K : Act → World → Prop} {a : Act} {w : World} (h : wpOp P ops (FinQ ops Q) j K a w) : ∃ a' w', Rel oj.dst a a' ∧ K a' w' := by
  unfold wpOp at h
  simp only [hj] at h
  split at h
  · rcases h with h | ⟨_, h⟩
    · unfold Oper.wp at h
      generalize (execOp a.eval oj).run P w = r at h
      cases r with
      | ok n w' =>
        cases n <;> simp only [Oper.upon] at h
        case value u => exact ⟨_, _, ⟨u, a.defers, rfl⟩, h⟩
        case skip => exact ⟨_, _, ⟨undef, a.defers, rfl⟩, h⟩
        case defer d => exact ⟨_, _, ⟨undef, d :: a.defers, rfl⟩, h⟩
        case enter f args =>
          obtain ⟨e, w', fr, hR, _⟩ := h []
          cases e with
          | returned u => exact ⟨_, _, ⟨u, a.defers, rfl⟩, hR⟩
          | panicked c => exact (hR : False).elim
          | outgrown => exact (FinQ.noOut hR).elim
        case row row args =>
          obtain ⟨v, w', hR, _⟩ := h default []
          exact ⟨_, _, ⟨v, a.defers, rfl⟩, hR⟩
      | halt x w' =>
        cases x <;> simp only [Oper.upon] at h
        case panic u => exact (h : False).elim
    · exact (FinQ.noOut h).elim
  · exact ⟨_, _, ⟨undef, a.defers, rfl⟩, h⟩
theorem wpOp_on {Q' : Exit → Act → World → Prop} {j : Nat} {oj : Oper} (hj : ops[j]? = some oj) {K K' : Act → World → Prop} {a : Act} {w : World} (hQ : ∀ e a w, Q' e a w → Q e a w) (hK : ∀ a' w', Rel oj.dst a a' → K a' w' → K' a' w') (h : wpOp P ops Q' j K a w) : wpOp P ops Q j K' a w := by
  unfold wpOp at h ⊢
  simp only [hj] at h ⊢
  have hout : LetsOut Q' → LetsOut Q := fun ⟨a, w, h⟩ => ⟨a, w, hQ _ _ _ h⟩
  split at h
  · rename_i hw
    rw [if_pos hw]
    refine h.imp (fun h => ?_) (fun h => ⟨h.1, hout h.2⟩)
    unfold Oper.wp at h ⊢
    generalize (execOp a.eval oj).run P w = r at h ⊢
    cases r with
    | ok n w' =>
      cases n <;> simp only [Oper.upon] at h ⊢
      case value u => exact hK _ _ ⟨u, a.defers, rfl⟩ h
      case skip => exact hK _ _ ⟨undef, a.defers, rfl⟩ h
      case defer d => exact hK _ _ ⟨undef, d :: a.defers, rfl⟩ h
      case enter f args =>
        refine Calls.mono h fun e w'' he => ?_
        cases e with
        | returned u => exact hK _ _ ⟨u, a.defers, rfl⟩ he
        | panicked c => exact hQ _ _ _ he
        | outgrown => exact hout he
      case row row args => exact Rows.mono h fun u w'' he => hK _ _ ⟨u, a.defers, rfl⟩ he
    | halt x w' =>
      cases x <;> simp only [Oper.upon] at h ⊢
      case panic u => exact hQ _ _ _ h
  · rename_i hw
    rw [if_neg hw]
    exact hK _ _ ⟨undef, a.defers, rfl⟩ h
/-- Whether another's value is in its place already makes no difference. -/
theorem wpOp_frame {j : Nat} {oi oj : Oper} {v : Value} (hj : ops[j]? = some oj) (hap : oi.apart ops oj = true) (hsj : ∀ cs b, oj.op ≠ .select cs b) {K : Act → World → Prop} {a : Act} {w : World}
    (h : wpOp P ops (FinQ ops Q) j (fun a' w' => K (a'.put oi.dst v) w') a w) : wpOp P ops (FinQ ops Q) j K (a.put oi.dst v) w := by
  obtain ⟨h1, h2, h3⟩ := Oper.apart_spec hap
  unfold wpOp at *
  simp only [hj] at *
  rw [wanted_put oj a oi.dst v h1]
  split at h
  · rename_i hw
    rw [if_pos hw]
    rcases h with h | ⟨_, h⟩
    · refine .inl ?_
      unfold Oper.wp at *
      rw [execOp_put oj hsj a oi.dst v h1]
      generalize (execOp a.eval oj).run P w = r at *
      cases r with
      | ok n w' =>
        cases n <;> simp only [Oper.upon] at h ⊢
        case value u => rw [Act.put_comm a v u h2]; exact h
        case skip => rw [Act.put_comm a v undef h2]; exact h
        case defer d =>
          rw [Act.put_defers, Act.put_comm _ v undef h2]
          exact h
        case enter f args =>
          refine Calls.mono h fun e w'' he => ?_
          cases e with
          | returned u => dsimp only at he ⊢; rw [Act.put_comm a v u h2]; exact he
          | panicked c => exact (he : False).elim
          | outgrown => exact he
        case row row args => exact Rows.mono h fun u w'' he => by rw [Act.put_comm a v u h2]; exact he
      | halt x w' =>
        cases x <;> simp only [Oper.upon] at h ⊢
        case panic u => exact (h : False).elim
    · exact (FinQ.noOut h).elim
  · rename_i hw
    rw [if_neg hw, Act.put_comm a v undef h2]
    exact h

/-- In state 'a', in the world 'w', the operation leaves v and the world as it is. -/
def ReadAt (P : Program) (ops : Array Oper) (o : Oper) (v : Value) (a : Act) (w : World) : Prop :=
  (Region.wanted o (yielded ops a.tmps) = true ∧ (execOp a.eval o).run P w = .ok (.value v) w) ∨ (Region.wanted o (yielded ops a.tmps) = false ∧ v = undef)
theorem ReadAt.wpOp {Q' : Exit → Act → World → Prop} {i : Nat} {o : Oper} {v : Value} {a : Act} {w : World} (hi : ops[i]? = some o) (h : ReadAt P ops o v a w) {K : Act → World → Prop} (hK : K (a.put o.dst v) w) : wpOp P ops Q' i K a w := by
  unfold Go.wpOp
  simp only [hi]
  rcases h with ⟨hw, hr⟩ | ⟨hw, rfl⟩
  · rw [if_pos hw]
    refine .inl ?_
    unfold Oper.wp
    rw [hr]
    exact hK
  · rw [if_neg (by simp [hw])]
    exact hK
theorem upon_ok {o : Oper} {a : Act} {K : Act → World → Prop} {r : Result Next} (h : o.upon P a K (FinQ ops Q) r) : ∃ x w1, r = .ok x w1 := by
  cases r with
  | ok x w1 => exact ⟨x, w1, rfl⟩
  | halt x w1 =>
    cases x <;> simp only [Oper.upon] at h
    exact (h : False).elim
theorem readAt_of {i : Nat} {o : Oper} (hi : ops[i]? = some o) {a : Act} {w : World} {K : Act → World → Prop} (hr : Region.wanted o (yielded ops a.tmps) = true → ∀ w r w1, (execOp a.eval o).run P w = .ok r w1 → w1 = w ∧ ∃ v, r = .value v)
    (h : wpOp P ops (FinQ ops Q) i K a w) : ∃ v, ReadAt P ops o v a w ∧ K (a.put o.dst v) w := by
  unfold Go.wpOp at h
  simp only [hi] at h
  by_cases hw : Region.wanted o (yielded ops a.tmps) = true
  · rw [if_pos hw] at h
    rcases h with h | ⟨_, h⟩
    · unfold Oper.wp at h
      obtain ⟨x, w1, he⟩ := upon_ok h
      obtain ⟨rfl, v, rfl⟩ := hr hw _ _ _ he
      rw [he] at h
      exact ⟨v, .inl ⟨hw, he⟩, h⟩
    · exact (FinQ.noOut h).elim
  · rw [if_neg hw] at h
    exact ⟨undef, .inr ⟨by simpa using hw, rfl⟩, h⟩
theorem readB_keeps {o : Oper} {ρ : Operand → Value} (h : readB P o.op = true) (hd : lightB P o.op = true → dynB ρ o.op = true) : ∀ w r w1, (execOp ρ o).run P w = .ok r w1 → w1 = w ∧ ∃ v, r = .value v := by
  intro w r w1 hr
  unfold readB at h
  by_cases hl : lightB P o.op = true
  · obtain ⟨h1, h2⟩ := light_steady hl (hd hl)
    exact ⟨(h1 w r w1 hr).1, h2 w r w1 hr⟩
  · simp only [hl, Bool.false_or] at h
    exact load_keeps h w r w1 hr
/-- A light operation yields in every world what it yields in one. -/
theorem ReadAt.all {o : Oper} {v : Value} {a : Act} {w : World} (h : ReadAt P ops o v a w) (hl : lightB P o.op = true) (hd : Region.wanted o (yielded ops a.tmps) = true → dynB a.eval o.op = true) : Yields P ops o v a := by
  rcases h with ⟨hw, hr⟩ | h
  · exact .inl ⟨hw, fun w' => ((light_steady hl (hd hw)).1 _ _ _ hr).2 w'⟩
  · exact .inr h
theorem Yields.readAt {o : Oper} {v : Value} {a : Act} (h : Yields P ops o v a) (w : World) : ReadAt P ops o v a w := by
  rcases h with ⟨hw, hr⟩ | h
  · exact .inl ⟨hw, hr w⟩
  · exact .inr h

theorem Yields.unique {o : Oper} {v v' : Value} {a : Act} {w : World} (h : Yields P ops o v a) (h' : ReadAt P ops o v' a w) : v' = v := by
  rcases h with ⟨hw, hr⟩ | ⟨hw, rfl⟩ <;> rcases h' with ⟨hw', hr'⟩ | ⟨hw', rfl⟩
  · rw [hr w] at hr'; simp only [Result.ok.injEq, Next.value.injEq] at hr'; exact hr'.1.symm
  · rw [hw] at hw'; cases hw'
  · rw [hw] at hw'; cases hw'
  · rfl
/-- Two operations that stand in no order may change places. -/
theorem wpOp_swap {i j : Nat} {oi oj : Oper} (hi : ops[i]? = some oi) (hj : ops[j]? = some oj) (hsel : Region.noSelect ops = true) (hok : okPair P ops oi oj = true) {K : Act → World → Prop} {a : Act} {w : World}
    (hdi : Region.wanted oi (yielded ops a.tmps) = true → dynB a.eval oi.op = true) (hdj : Region.wanted oj (yielded ops a.tmps) = true → dynB a.eval oj.op = true)
    (h : wpOp P ops (FinQ ops Q) j (wpOp P ops (FinQ ops Q) i K) a w) : wpOp P ops (FinQ ops Q) i (wpOp P ops (FinQ ops Q) j K) a w := by
  have hsi : ∀ cs b, oi.op ≠ .select cs b := fun cs b => Region.noSelect_spec hsel i oi cs b hi
  have hsj : ∀ cs b, oj.op ≠ .select cs b := fun cs b => Region.noSelect_spec hsel j oj cs b hj
  unfold okPair at hok
  simp only [Bool.and_eq_true, Bool.or_eq_true] at hok
  obtain ⟨hap, hcl⟩ := hok
  obtain ⟨h1, h2, h3⟩ := Oper.apart_spec hap
  have hfi : ∀ a', Rel oj.dst a a' → execOp a'.eval oi = execOp a.eval oi := fun a' hr => hr.eval hsi h3
  have hwi : ∀ a', Rel oj.dst a a' → Region.wanted oi (yielded ops a'.tmps) = Region.wanted oi (yielded ops a.tmps) := fun a' hr => hr.wanted h3
  rcases hcl with (hl | hl) | ⟨hri, hrj⟩
  · -- oi is light
    have rd : ∀ a', Rel oj.dst a a' → Region.wanted oi (yielded ops a'.tmps) = true → ∀ w r w1, (execOp a'.eval oi).run P w = .ok r w1 → w1 = w ∧ ∃ v, r = .value v := fun a' hr hw w r w1 he => by
      rw [hfi a' hr] at he
      rw [hwi a' hr] at hw
      obtain ⟨h4, h5⟩ := light_steady hl (hdi hw)
      exact ⟨(h4 w r w1 he).1, h5 w r w1 he⟩
    have dd : ∀ a', Rel oj.dst a a' → Region.wanted oi (yielded ops a'.tmps) = true → dynB a'.eval oi.op = true := fun a' hr hw => by rw [hr.dyn h3]; exact hdi (by rw [← hwi a' hr]; exact hw)
    obtain ⟨a1, w1, hr1, hk1⟩ := wpOp_ex hj h
    obtain ⟨v, hv, _⟩ := readAt_of (P := P) hi (rd a1 hr1) hk1
    have hy : Yields P ops oi v a := (hv.all hl (dd a1 hr1)).of_same (hfi a1 hr1).symm (hwi a1 hr1).symm
    refine (Yields.readAt hy w).wpOp hi (wpOp_frame hj hap hsj (wpOp_on hj (fun _ _ _ h => h) (fun a' w' hr hk => ?_) h))
    have hy' : Yields P ops oi v a' := hy.of_same (hfi a' hr) (hwi a' hr)
    obtain ⟨v', hv', hk'⟩ := readAt_of (P := P) hi (rd a' hr) hk
    rw [Yields.unique hy' hv'] at hk'
    exact hk'
  · -- oj is light
    have rd : Region.wanted oj (yielded ops a.tmps) = true → ∀ w r w1, (execOp a.eval oj).run P w = .ok r w1 → w1 = w ∧ ∃ v, r = .value v := fun hw w r w1 he => by
      obtain ⟨h4, h5⟩ := light_steady hl (hdj hw)
      exact ⟨(h4 w r w1 he).1, h5 w r w1 he⟩
    obtain ⟨u, hu, hk⟩ := readAt_of (P := P) hj rd h
    have hy := hu.all hl hdj
    have hap' : oj.apart ops oi = true := by
      simp only [Oper.apart, Bool.and_eq_true] at hap ⊢
      refine ⟨?_, ?_⟩
      · cases hd : oj.dst with
        | none => rfl
        | some d =>
          have a1 := h3 d hd
          have a2 : oi.dst ≠ some d := fun e => h2 d e hd
          simp [a1, a2]
      · cases hd : oi.dst with
        | none => rfl
        | some d =>
          have a1 := h1 d hd
          simp [a1]
    refine wpOp_mono (fun a' w' hh => (Yields.readAt hh.1 w').wpOp hj hh.2) (wpOp_put hi hap' hsj hsi (fun c a w hq => (hq : False).elim) hy hk)
  · -- both read
    obtain ⟨u, hu, hk⟩ := readAt_of (P := P) hj (fun hw => readB_keeps hrj (fun _ => hdj hw)) h
    have hrel : Rel oj.dst a (a.put oj.dst u) := ⟨u, a.defers, rfl⟩
    obtain ⟨v, hv, hk2⟩ := readAt_of (P := P) hi (fun hw => readB_keeps hri (fun _ => by rw [hrel.dyn h3]; exact hdi (by rw [← hwi _ hrel]; exact hw))) hk
    have hv' : ReadAt P ops oi v a w := by
      unfold ReadAt at hv ⊢
      rw [hfi _ hrel, hwi _ hrel] at hv
      exact hv
    have hrel' : Rel oi.dst a (a.put oi.dst v) := ⟨v, a.defers, rfl⟩
    have hu' : ReadAt P ops oj u (a.put oi.dst v) w := by
      unfold ReadAt at hu ⊢
      rw [hrel'.eval hsj h1, hrel'.wanted h1]
      exact hu
    exact hv'.wpOp hi (hu'.wpOp hj (by rw [Act.put_comm a v u h2]; exact hk2))

/-! ### the whole region -/
theorem testBit_edges (B : Array Nat) (p : Nat) : ∀ (l : List Edge) (s : Nat), (l.foldl (fun s e => if Region.binds .any e then s ||| 2 ^ e.on ||| B.getD e.on 0 else s) s).testBit p = true →
    s.testBit p = true ∨ ∃ e ∈ l, Region.binds .any e = true ∧ (e.on = p ∨ (B.getD e.on 0).testBit p = true)
  | [], s, h => .inl h
  | e :: l, s, h => by
    simp only [List.foldl_cons] at h
    rcases testBit_edges B p l _ h with h | ⟨e', he', h'⟩
    · by_cases hb : Region.binds .any e = true
      · rw [if_pos hb] at h
        simp only [Nat.testBit_or, Bool.or_eq_true] at h
        rcases h with (h | h) | h
        · exact .inl h
        · rw [Nat.testBit_two_pow] at h
          exact .inr ⟨e, List.mem_cons_self .., hb, .inl (by simpa using h)⟩
        · exact .inr ⟨e, List.mem_cons_self .., hb, .inr h⟩
      · rw [if_neg hb] at h; exact .inl h
    · exact .inr ⟨e', List.mem_cons_of_mem _ he', h'⟩
structure Facts (P : Program) (ops : Array Oper) (B : Array Nat) : Prop where
  sel : Region.noSelect ops = true
  edge : ∀ (i : Nat) (oi : Oper), ops[i]? = some oi → ∀ p, (B.getD i 0).testBit p = true → ∃ e ∈ oi.after, Region.binds .any e = true ∧ (e.on = p ∨ (B.getD e.on 0).testBit p = true)
  lt : ∀ (i : Nat) (oi : Oper), ops[i]? = some oi → ∀ e ∈ oi.after, Region.binds .any e = true → e.on < i
  pair : ∀ (i j : Nat) (oi oj : Oper), ops[i]? = some oi → ops[j]? = some oj → j < i → (B.getD i 0).testBit j = false → okPair P ops oi oj = true
  stay : ∀ (i k : Nat) (oi ok : Oper), ops[i]? = some oi → ops[k]? = some ok → i ≤ k → dynOp oi.op = true → ∀ d, ok.dst = some d → d ∉ oi.looksAt ops
theorem facts_of (h : textB P ops = true) : Facts P ops (Region.before ops) := by
  unfold textB at h
  simp only [Bool.and_eq_true, List.all_eq_true, List.mem_range] at h
  obtain ⟨hs, hr⟩ := h
  have row : ∀ i oi, ops[i]? = some oi → i < ops.size ∧ rowB P ops (Region.before ops) i = true := fun i oi hi => by
    have := (Array.getElem?_eq_some_iff.1 hi).1
    exact ⟨this, hr i this⟩
  have key : ∀ i oi, ops[i]? = some oi → ((Region.before ops).getD i 0 = edgesOf (Region.before ops) oi ∧ (∀ e ∈ oi.after, Region.binds .any e = true → e.on < i)) ∧ (∀ j, j < i → ((Region.before ops).getD i 0).testBit j = true ∨ (∃ oj, ops[j]? = some oj ∧ okPair P ops oi oj = true)) ∧
      (dynOp oi.op = true → ∀ k ok, ops[k]? = some ok → i ≤ k → ∀ d, ok.dst = some d → d ∉ oi.looksAt ops) := fun i oi hi => by
    obtain ⟨hlt, h⟩ := row i oi hi
    unfold rowB at h
    simp only [hi, Bool.and_eq_true, List.all_eq_true, List.mem_range, Bool.or_eq_true] at h
    obtain ⟨⟨⟨h1, h2⟩, h3⟩, h4⟩ := h
    refine ⟨⟨Nat.eq_of_beq_eq_true h1, fun e he hb => ?_⟩, fun j hj => ?_, fun hd k ok hk hle d hdd => ?_⟩
    · have := Array.all_eq_true_iff_forall_mem.1 h2 e he
      simp only [hb, Bool.not_true, Bool.false_or] at this
      exact by simpa using this
    · rcases h3 j hj with h | h
      · exact .inl h
      · cases hoj : ops[j]? with
        | none => rw [hoj] at h; cases h
        | some oj => rw [hoj] at h; exact .inr ⟨oj, rfl, h⟩
    · rcases h4 with h4 | h4
      · rw [hd] at h4; cases h4
      · have h5 := h4 k (Array.getElem?_eq_some_iff.1 hk).1
        simp only [hk, hdd] at h5
        rcases h5 with h5 | h5
        · exact absurd (show k < i by simpa using h5) (by omega)
        · simpa using h5
  refine ⟨hs, fun i oi hi p hp => ?_, fun i oi hi => (key i oi hi).1.2, fun i j oi oj hi hj hlt hb => ?_, fun i k oi ok hi hk hle hd => (key i oi hi).2.2 hd k ok hk hle⟩
  · rw [(key i oi hi).1.1] at hp
    unfold edgesOf at hp
    rw [← Array.foldl_toList] at hp
    rcases testBit_edges _ p _ _ hp with h | ⟨e, he, h⟩
    · simp at h
    · exact ⟨e, by simpa using he, h⟩
  · rcases (key i oi hi).2.1 j hlt with h | ⟨oj', hj', h⟩
    · rw [hb] at h; cases h
    · rw [hj] at hj'; cases hj'; exact h
/-- What the end of the walk says of the operands' values it says of them all the way. -/
theorem dyn_of {B : Array Nat} (F : Facts P ops B) {i : Nat} {oi : Oper} (hi : ops[i]? = some oi) : ∀ (rem : List Nat) (a : Act) (w : World), (∀ k ∈ rem, ∀ ok, ops[k]? = some ok → dynOp oi.op = true → ∀ d, ok.dst = some d → d ∉ oi.looksAt ops) → (∀ k ∈ rem, k < ops.size) →
    wpOps P ops (FinQ ops Q) rem a w → Region.wanted oi (yielded ops a.tmps) = true → dynB a.eval oi.op = true
  | [], a, w, _, _, h, hw => by
    have h1 : plainB ops a = true := h.1
    have h2 := Array.all_eq_true_iff_forall_mem.1 h1 oi (Array.mem_of_getElem? hi)
    simpa [hw] using h2
  | k :: rem, a, w, hst, hlt, h, hw => by
    by_cases hd : dynOp oi.op = true
    · rw [wpOps_cons] at h
      have hk : ∃ ok, ops[k]? = some ok := ⟨_, Array.getElem?_eq_getElem (hlt k (List.mem_cons_self ..))⟩
      obtain ⟨ok, hok⟩ := hk
      obtain ⟨a', w', hr, h'⟩ := wpOp_ex hok h
      have hn := hst k (List.mem_cons_self ..) ok hok hd
      have := dyn_of F hi rem a' w' (fun k hk => hst k (List.mem_cons_of_mem _ hk)) (fun k hk => hlt k (List.mem_cons_of_mem _ hk)) h' (by rw [hr.wanted hn]; exact hw)
      rw [hr.dyn hn] at this
      exact this
    · exact dynB_of_not (by simpa using hd)
theorem wpOps_move {B : Array Nat} (F : Facts P ops B) {i : Nat} {oi : Oper} (hi : ops[i]? = some oi) (post : List Nat) : ∀ (pre : List Nat) (a : Act) (w : World),
    (∀ p ∈ pre, ∃ op, ops[p]? = some op ∧ p < i ∧ okPair P ops oi op = true) → (pre ++ i :: post).Pairwise (· < ·) → (∀ k ∈ pre ++ i :: post, k < ops.size) →
    wpOps P ops (FinQ ops Q) (pre ++ i :: post) a w → wpOp P ops (FinQ ops Q) i (wpOps P ops (FinQ ops Q) (pre ++ post)) a w
  | [], a, w, _, _, _, h => by rw [List.nil_append, wpOps_cons] at h; exact h
  | p :: pre, a, w, hp, hs, hlt, h => by
    obtain ⟨op, hop, hpi, hok⟩ := hp p (List.mem_cons_self ..)
    simp only [List.cons_append] at h hs hlt ⊢
    have hs' := List.pairwise_cons.1 hs
    have hap : ∀ q ∈ p :: pre, ∀ oq, ops[q]? = some oq → ∀ d, oq.dst = some d → d ∉ oi.looksAt ops := fun q hq oq hoq => by
      obtain ⟨oq', hoq', _, hokq⟩ := hp q hq
      rw [hoq] at hoq'; cases hoq'
      unfold okPair at hokq
      simp only [Bool.and_eq_true] at hokq
      exact (Oper.apart_spec hokq.1).2.2
    have hdi : Region.wanted oi (yielded ops a.tmps) = true → dynB a.eval oi.op = true := by
      refine dyn_of F hi _ a w (fun k hk ok hok hd d hdd => ?_) hlt h
      rw [← List.cons_append, List.mem_append] at hk
      rcases hk with hk | hk
      · exact hap k hk ok hok d hdd
      · refine F.stay i k oi ok hi hok ?_ hd d hdd
        have hs2 := (List.pairwise_append.1 (List.pairwise_cons.1 hs).2).2.1
        rcases List.mem_cons.1 hk with rfl | hk
        · exact Nat.le_refl _
        · exact Nat.le_of_lt ((List.pairwise_cons.1 hs2).1 k hk)
    have hdj : Region.wanted op (yielded ops a.tmps) = true → dynB a.eval op.op = true := by
      refine dyn_of F hop _ a w (fun k hk ok hok hd d hdd => F.stay p k op ok hop hok ?_ hd d hdd) hlt h
      rcases List.mem_cons.1 hk with rfl | hk
      · exact Nat.le_refl _
      · exact Nat.le_of_lt (hs'.1 k hk)
    rw [wpOps_cons] at h
    have h2 : wpOp P ops (FinQ ops Q) p (wpOp P ops (FinQ ops Q) i (wpOps P ops (FinQ ops Q) (pre ++ post))) a w :=
      wpOp_mono (fun a' w' h' => wpOps_move F hi post pre a' w' (fun q hq => hp q (List.mem_cons_of_mem _ hq)) hs'.2 (fun k hk => hlt k (List.mem_cons_of_mem _ hk)) h') h
    have h3 := wpOp_swap hi hop F.sel hok hdi hdj h2
    exact wpOp_mono (fun a' w' h' => by rw [wpOps_cons]; exact h') h3
structure TInv (ops : Array Oper) (listed : Array Bool) (rem : List Nat) : Prop where
  size : listed.size = ops.size
  sorted : rem.Pairwise (· < ·)
  mem : ∀ i, i ∈ rem ↔ i < ops.size ∧ listed.getD i false = false
  closed : ∀ j oj, ops[j]? = some oj → listed.getD j false = true → ∀ e ∈ oj.after, Region.binds .any e = true → listed.getD e.on false = true
theorem getD_true_false {listed : Array Bool} {i : Nat} (h : i < listed.size) : listed.getD i true = listed.getD i false := by simp [h]
theorem reach_listed {B : Array Nat} (F : Facts P ops B) {listed : Array Bool} {rem : List Nat} (I : TInv ops listed rem) : ∀ (n i : Nat) (oi : Oper), i < n → ops[i]? = some oi → (∀ e ∈ oi.after, Region.binds .any e = true → listed.getD e.on false = true) →
    ∀ p, (B.getD i 0).testBit p = true → listed.getD p false = true
  | 0, i, _, h, _, _, _, _ => absurd h (by omega)
  | n + 1, i, oi, hn, hi, hall, p, hp => by
    obtain ⟨e, he, hb, h⟩ := F.edge i oi hi p hp
    have hl := hall e he hb
    have hlt := F.lt i oi hi e he hb
    rcases h with rfl | h
    · exact hl
    · have hsz : e.on < ops.size := Nat.lt_trans hlt (Array.getElem?_eq_some_iff.1 hi).1
      exact reach_listed F I n e.on ops[e.on] (by omega) (Array.getElem?_eq_getElem hsz) (I.closed e.on _ (Array.getElem?_eq_getElem hsz) hl) p h
theorem wpAny_text {B : Array Nat} (F : Facts P ops B) : ∀ (n : Nat) (rem : List Nat) (listed : Array Bool) (a : Act) (w : World), rem.length = n → TInv ops listed rem → wpOps P ops (FinQ ops Q) rem a w → wpAny P .any ops Q n listed a w
  | 0, rem, listed, a, w, hlen, I, h => by
    obtain rfl : rem = [] := List.eq_nil_of_length_eq_zero hlen
    refine ⟨?_, h.2⟩
    rw [List.eq_nil_iff_forall_not_mem]
    intro i hi
    obtain ⟨h0, o, ho, _⟩ := mem_ready.1 hi
    have hlt := (Array.getElem?_eq_some_iff.1 ho).1
    rw [getD_true_false (by rw [I.size]; exact hlt)] at h0
    exact absurd ((I.mem i).2 ⟨hlt, h0⟩) (by simp)
  | n + 1, rem, listed, a, w, hlen, I, h => by
    refine ⟨fun h0 => ?_, fun i hi => ?_⟩
    · exfalso
      match rem, hlen, I with
      | i :: rem, _, I =>
        have hi := (I.mem i).1 (List.mem_cons_self ..)
        have : i ∈ Region.ready .any ops listed := by
          refine mem_ready.2 ⟨by rw [getD_true_false (by rw [I.size]; exact hi.1)]; exact hi.2, ops[i], Array.getElem?_eq_getElem hi.1, fun e he hb => ?_⟩
          have hlt := F.lt i _ (Array.getElem?_eq_getElem hi.1) e he hb
          cases hl : listed.getD e.on false with
          | true => rfl
          | false =>
            have hm := (I.mem e.on).2 ⟨by omega, hl⟩
            rcases List.mem_cons.1 hm with h | h
            · omega
            · have := (List.pairwise_cons.1 I.sorted).1 _ h; omega
        rw [h0] at this
        cases this
    · obtain ⟨h0, oi, ho, hall⟩ := mem_ready.1 hi
      have hlt := (Array.getElem?_eq_some_iff.1 ho).1
      rw [getD_true_false (by rw [I.size]; exact hlt)] at h0
      have hm := (I.mem i).2 ⟨hlt, h0⟩
      obtain ⟨pre, post, rfl⟩ := List.append_of_mem hm
      have hsort := List.pairwise_append.1 I.sorted
      have hpre : ∀ p ∈ pre, ∃ op, ops[p]? = some op ∧ p < i ∧ okPair P ops oi op = true := fun p hp => by
        have hpi := hsort.2.2 p hp i (List.mem_cons_self ..)
        have hpm := (I.mem p).1 (List.mem_append_left _ hp)
        refine ⟨ops[p], Array.getElem?_eq_getElem hpm.1, hpi, F.pair i p oi _ ho (Array.getElem?_eq_getElem hpm.1) hpi ?_⟩
        cases hb : (B.getD i 0).testBit p with
        | false => rfl
        | true =>
          have := reach_listed F I (i + 1) i oi (by omega) ho hall p hb
          rw [hpm.2] at this
          cases this
      have hmv := wpOps_move F ho post pre a w hpre I.sorted (fun k hk => ((I.mem k).1 hk).1) h
      have hnot : ∀ k ∈ pre ++ post, k ≠ i := fun k hk he => by
        subst he
        rcases List.mem_append.1 hk with hk | hk
        · have := hsort.2.2 k hk k (List.mem_cons_self ..); omega
        · have := (List.pairwise_cons.1 hsort.2.1).1 k hk; omega
      have I' : TInv ops (listed.setIfInBounds i true) (pre ++ post) := by
        refine ⟨by simp [I.size], ?_, fun k => ?_, fun j oj hj hl e he hb => ?_⟩
        · exact List.Pairwise.sublist (List.Sublist.append (List.Sublist.refl _) (List.sublist_cons_self _ _)) I.sorted
        · constructor
          · intro hk
            have h1 := (I.mem k).1 (by
              rcases List.mem_append.1 hk with h | h
              · exact List.mem_append_left _ h
              · exact List.mem_append_right _ (List.mem_cons_of_mem _ h))
            refine ⟨h1.1, ?_⟩
            rw [getD_set_ne false (Ne.symm (hnot k hk))]
            exact h1.2
          · rintro ⟨hk1, hk2⟩
            have hki : i ≠ k := fun e => by
              subst e
              rw [show (listed.setIfInBounds i true).getD i false = true by simp [I.size, hk1]] at hk2
              cases hk2
            rw [getD_set_ne false hki] at hk2
            have h1 := (I.mem k).2 ⟨hk1, hk2⟩
            rcases List.mem_append.1 h1 with h | h
            · exact List.mem_append_left _ h
            · rcases List.mem_cons.1 h with h | h
              · exact absurd h.symm hki
              · exact List.mem_append_right _ h
        · by_cases hij : i = j
          · subst hij
            rw [ho] at hj; cases hj
            exact getD_set_true (hall e he hb)
          · rw [getD_set_ne false hij] at hl
            exact getD_set_true (I.closed j oj hj hl e he hb)
      refine wpOp_on ho (fun _ _ _ h => FinQ.imp h) (fun a' w' _ h' => wpAny_text F n (pre ++ post) _ a' w' (by simp at hlen ⊢; omega) I' h') hmv
/-- ONE WALK OF THE TEXT'S ORDER SPEAKS FOR EVERY ORDER. -/
theorem wp_region_text {l : List Oper} {id : Nat} {a : Act} {w : World} (hm : P.follows .mixedOrders = true) (hB : textB P l.toArray = true)
    (h : wpList P l.toArray (FinQ l.toArray Q) l a { w with drawn := w.drawn + 1 }) : (Code.region id l.toArray true).wp P Q a w := by
  refine wp_region_any hm ?_
  have h' : wpOps P l.toArray (FinQ l.toArray Q) (List.range' 0 l.length) a { w with drawn := w.drawn + 1 } := by
    rw [wpOps_eq_wpList l 0 (by simp)]
    exact h
  refine wpAny_text (facts_of hB) _ _ _ a _ (by simp) ⟨by simp, List.pairwise_lt_range' .., fun i => ?_, fun j oj _ hl => ?_⟩ h'
  · simp only [List.mem_range', List.size_toArray]
    constructor
    · rintro ⟨k, hk, rfl⟩
      simp [show k < l.length from hk]
    · rintro ⟨h1, _⟩
      exact ⟨i, h1, by omega⟩
  · rcases Nat.lt_or_ge j l.length with hj | hj
    · simp [hj] at hl
    · simp [hj] at hl
end
end Ox
