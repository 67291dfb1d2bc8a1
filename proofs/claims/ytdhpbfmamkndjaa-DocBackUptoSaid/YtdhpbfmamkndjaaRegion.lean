/- A region that draws its order, walked once in the order of the text. Its operations fall in three classes: light ones (they look at their operands alone), reads (they leave the world as it is), all others. If any two operations that stand in no order are apart, and one of them is light or both are reads, then one walk of the text's order speaks for every order, provided that no operation panics. Over any program. -/
import Derived.Orders
import Derived.Tactics
import Derived.Laws.Sem
namespace Ox
open Go
section
variable {P : Program}

/-! ### what looks at no world -/
def Steady (P : Program) {α : Type} (s : Sem α) : Prop := ∀ w r w1, s.run P w = .ok r w1 → w1 = w ∧ ∀ w', s.run P w' = .ok r w'
def Never (P : Program) {α : Type} (s : Sem α) : Prop := ∀ w r w1, s.run P w ≠ .ok r w1
theorem Never.steady {α : Type} {s : Sem α} (h : Never P s) : Steady P s := fun w r w1 hr => absurd hr (h w r w1)
theorem Steady.pure {α : Type} (x : α) : Steady P (Pure.pure x : Sem α) := fun w r w1 h => by
  simp only [Sem.run_pure, Result.ok.injEq] at h
  obtain ⟨rfl, rfl⟩ := h
  exact ⟨rfl, fun _ => rfl⟩
theorem Steady.bind {α β : Type} {s : Sem α} {f : α → Sem β} (h : Steady P s) (hf : ∀ x, Steady P (f x)) : Steady P (s >>= f) := fun w r w1 hr => by
  rw [Sem.run_bind] at hr
  cases hs : s.run P w with
  | halt x w2 => rw [hs] at hr; simp at hr
  | ok x w2 =>
    rw [hs] at hr
    simp only [Result.andThen_ok] at hr
    obtain ⟨rfl, h2⟩ := h _ _ _ hs
    obtain ⟨h3, h4⟩ := hf x _ _ _ hr
    exact ⟨h3, fun w' => by rw [Sem.run_bind, h2 w']; exact h4 w'⟩
theorem Never.bind {α β : Type} {s : Sem α} {f : α → Sem β} (hf : ∀ x, Never P (f x)) : Never P (s >>= f) := fun w r w1 hr => by
  rw [Sem.run_bind] at hr
  cases hs : s.run P w with
  | halt x w2 => rw [hs] at hr; simp at hr
  | ok x w2 => rw [hs] at hr; exact hf x _ _ _ hr
theorem Steady.program : Steady P Go.program := fun w r w1 h => by
  simp only [Go.program, Sem.run, Result.ok.injEq] at h
  obtain ⟨rfl, rfl⟩ := h
  exact ⟨rfl, fun _ => rfl⟩
theorem Never.halt {α : Type} (h : Halt) : Never P (Sem.halt h : Sem α) := fun w r w1 hr => by simp [Sem.run] at hr
theorem Never.stuck {α : Type} (s : String) : Never P (Go.stuck s : Sem α) := Never.halt _
theorem Never.unsupported {α : Type} (s : Unsupported) : Never P (Go.unsupported s : Sem α) := Never.halt _
theorem Never.goPanic {α : Type} (v : Value) : Never P (Go.goPanic v : Sem α) := Never.halt _
theorem Never.runtimePanic {α : Type} (e : RuntimeError) : Never P (Go.runtimePanic e : Sem α) := by
  unfold Go.runtimePanic
  refine Never.bind fun p => ?_
  cases e <;> simp only [] <;> first | exact Never.goPanic _ | exact Never.bind fun _ => Never.goPanic _ | exact Never.bind fun _ => Never.bind fun _ => Never.goPanic _
theorem Never.boundsPanic {α : Type} (k : IntKind) (x y : Int) (c : BoundsCode) : Never P (Go.boundsPanic k x y c : Sem α) := by
  unfold Go.boundsPanic
  simp only []
  split <;> exact Never.bind fun _ => Never.runtimePanic _
theorem Steady.stuck {α : Type} (s : String) : Steady P (Go.stuck s : Sem α) := (Never.stuck s).steady
theorem Steady.unsupported {α : Type} (s : Unsupported) : Steady P (Go.unsupported s : Sem α) := (Never.unsupported s).steady
theorem Steady.runtimePanic {α : Type} (e : RuntimeError) : Steady P (Go.runtimePanic e : Sem α) := (Never.runtimePanic e).steady
theorem Steady.boundsPanic {α : Type} (k : IntKind) (x y : Int) (c : BoundsCode) : Steady P (Go.boundsPanic k x y c : Sem α) := (Never.boundsPanic k x y c).steady
theorem Steady.typeInfo (t : TypeId) : Steady P (Go.typeInfo t) := by
  unfold Go.typeInfo
  refine Steady.program.bind fun p => ?_
  split <;> first | exact .pure _ | exact .stuck _
theorem Steady.underlying (t : TypeId) : Steady P (Go.underlying t) := by
  unfold Go.underlying
  refine Steady.program.bind fun p => ?_
  split <;> first | exact .pure _ | exact .stuck _
theorem Steady.sizeOf (t : TypeId) : Steady P (Go.sizeOf t) := (Steady.typeInfo t).bind fun _ => .pure _
theorem Steady.zeroValue (t : TypeId) : Steady P (Go.zeroValue t) := by
  unfold Go.zeroValue
  refine (Steady.typeInfo t).bind fun i => ?_
  split <;> first | exact .pure _ | exact .unsupported _
theorem Steady.isAgg (t : TypeId) : Steady P (Go.isAgg t) := by
  unfold Go.isAgg
  refine (Steady.underlying t).bind fun i => ?_
  split <;> exact .pure _
theorem Steady.part (t : TypeId) (cs : Array Value) (off : Nat) : Steady P (Go.part t cs off) := by
  unfold Go.part
  refine (Steady.isAgg t).bind fun b => ?_
  split
  · exact (Steady.sizeOf t).bind fun _ => .pure _
  · split <;> first | exact .pure _ | exact .stuck _
theorem Steady.asIntOf (v : Value) : Steady P (Go.asIntOf v) := by
  unfold Go.asIntOf
  split <;> first | exact .pure _ | exact .stuck _ | exact .unsupported _
theorem Steady.asAgg (v : Value) : Steady P (Go.asAgg v) := by
  unfold Go.asAgg
  split <;> first | exact .pure _ | exact .stuck _
theorem Steady.asBool (v : Value) : Steady P (Go.asBool v) := by
  unfold Go.asBool
  split <;> first | exact .pure _ | exact .stuck _
theorem Steady.sureAddr (v : Value) : Steady P (Instr.sureAddr v) := by
  unfold Instr.sureAddr
  split <;> first | exact .pure _ | exact .stuck _
theorem Steady.asAddr (v : Value) : Steady P (Go.asAddr v) := by
  unfold Go.asAddr
  split <;> first | exact .pure _ | exact .stuck _ | exact .runtimePanic _
theorem Steady.mapL {α β : Type} (f : α → Sem β) (hf : ∀ x, Steady P (f x)) : ∀ xs : List α, Steady P (xs.mapM f)
  | [] => by rw [List.mapM_nil]; exact .pure _
  | x :: xs => by
    rw [List.mapM_cons]
    exact (hf x).bind fun _ => (Steady.mapL f hf xs).bind fun _ => .pure _
theorem Steady.map {α β : Type} {s : Sem α} {f : α → β} (h : Steady P s) : Steady P (f <$> s) := by
  rw [← bind_pure_comp]
  exact h.bind fun _ => .pure _
theorem Steady.mapM {α β : Type} (f : α → Sem β) (hf : ∀ x, Steady P (f x)) (xs : Array α) : Steady P (xs.mapM f) := by
  rw [Array.mapM_eq_mapM_toList]
  exact (Steady.mapL f hf _).map

/-! ### the light operations -/
def isI : TypeDesc → Bool | .int _ => true | _ => false
/-- By its text alone: what it looks at is its operands (the dynamic condition 'dynB' besides). -/
def lightB (P : Program) : Op → Bool
  | .move _ | .assign _ | .pick .. | .build .. | .unOp .. | .nilCheck _ | .slice .. | .indexAddr .. | .index .. | .field .. | .extract .. | .makeInterface .. | .makeFunc .. => true
  | .fieldAddr s _ f => match P.underlying s with
    | some (.struct fs) => match fs[f]? with
      | some fl => (P.info? fl.type).any fun i => i.size != 0
      | none => false
    | _ => false
  | .binOp op t _ _ _ => match op with
    | .eql | .neq => match P.underlying t with | some (.int _) | some .string | some .bool => true | _ => false
    | _ => true
  | .convert s d _ => match P.underlying s, P.underlying d with | some (.int _), some (.int _) => true | _, _ => false
  | .call { callee := .builtin .len, argTypes, .. } => match (argTypes[0]?).bind P.underlying with | some .string | some (.slice _) => true | _ => false
  | _ => false
def plainV : Value → Bool | .int .. | .string .. | .bool .. => true | _ => false
def eqOk : Value → Value → Bool
  | .pointer _, .pointer none | .pointer none, .pointer _ => true
  | .pointer _, _ | _, .pointer _ | .float .., _ | .complex .., _ => false
  | _, _ => true
/-- What is asked of a light operation's operands' values. -/
def dynB (ρ : Operand → Value) : Op → Bool
  | .binOp op _ x y _ => match op with
    | .eql | .neq => eqOk (ρ x) (ρ y)
    | _ => plainV (ρ x) && plainV (ρ y)
  | .convert _ _ x => match ρ x with | .float .. | .complex .. | .pointer .. => false | _ => true
  | .nilCheck x => match ρ x with | .func (.method _) _ _ => false | _ => true
  | _ => true
theorem steady_sliceBound (x : Value) (y : Nat) (c : BoundsCode) : Steady P (Instr.sliceBound x y c) := by
  unfold Instr.sliceBound
  repeat' first | exact .pure _ | exact .stuck _ | exact .unsupported _ | exact .runtimePanic _ | exact .boundsPanic _ _ _ _ | exact .asIntOf _ | exact .asAgg _ | exact .asAddr _ | exact .sureAddr _ | exact .underlying _ | exact .sizeOf _ | exact .zeroValue _ | exact .part _ _ _ | refine Steady.bind ?_ (fun _ => ?_) | split | (dsimp only; split)
theorem steady_sliceBounds (b : Bool) (len cap : Nat) (lo hi mx : Option Value) : Steady P (Instr.sliceBounds b len cap lo hi mx) := by
  unfold Instr.sliceBounds
  repeat' first | exact .pure _ | exact .stuck _ | exact .unsupported _ | exact .runtimePanic _ | exact .boundsPanic _ _ _ _ | exact .asIntOf _ | exact .asAgg _ | exact .asAddr _ | exact .sureAddr _ | exact .underlying _ | exact .sizeOf _ | exact .zeroValue _ | exact .part _ _ _ | exact steady_sliceBound _ _ _ | refine Steady.bind ?_ (fun _ => ?_) | split | (dsimp only; split)
theorem steady_slice (t : TypeId) (x : Value) (lo hi mx : Option Value) : Steady P (Instr.slice t x lo hi mx) := by
  unfold Instr.slice
  repeat' first | exact .pure _ | exact .stuck _ | exact .unsupported _ | exact .runtimePanic _ | exact .boundsPanic _ _ _ _ | exact .asIntOf _ | exact .asAgg _ | exact .asAddr _ | exact .sureAddr _ | exact .underlying _ | exact .sizeOf _ | exact .zeroValue _ | exact .part _ _ _ | exact steady_sliceBounds _ _ _ _ _ _ | refine Steady.bind ?_ (fun _ => ?_) | split | (dsimp only; split)
theorem steady_sliceAt (t : TypeId) (x : Value) (lo hi mx : Option Value) : Steady P (Instr.sliceAt t x lo hi mx) := by
  unfold Instr.sliceAt
  repeat' first | exact .pure _ | exact .stuck _ | exact .unsupported _ | exact .runtimePanic _ | exact .boundsPanic _ _ _ _ | exact .asIntOf _ | exact .asAgg _ | exact .asAddr _ | exact .sureAddr _ | exact .underlying _ | exact .sizeOf _ | exact .zeroValue _ | exact .part _ _ _ | exact steady_sliceBounds _ _ _ _ _ _ | exact steady_slice _ _ _ _ _ | refine Steady.bind ?_ (fun _ => ?_) | split | (dsimp only; split)
theorem steady_indexAt (t : TypeId) (x i : Value) : Steady P (Instr.indexAt t x i) := by
  unfold Instr.indexAt
  repeat' first | exact .pure _ | exact .stuck _ | exact .unsupported _ | exact .runtimePanic _ | exact .boundsPanic _ _ _ _ | exact .asIntOf _ | exact .asAgg _ | exact .asAddr _ | exact .sureAddr _ | exact .underlying _ | exact .sizeOf _ | exact .zeroValue _ | exact .part _ _ _ | refine Steady.bind ?_ (fun _ => ?_) | split | (dsimp only; split)
theorem steady_index (t : TypeId) (x i : Value) : Steady P (Instr.index t x i) := by
  unfold Instr.index
  repeat' first | exact .pure _ | exact .stuck _ | exact .unsupported _ | exact .runtimePanic _ | exact .boundsPanic _ _ _ _ | exact .asIntOf _ | exact .asAgg _ | exact .asAddr _ | exact .sureAddr _ | exact .underlying _ | exact .sizeOf _ | exact .zeroValue _ | exact .part _ _ _ | refine Steady.bind ?_ (fun _ => ?_) | split | (dsimp only; split)
theorem steady_field (t : TypeId) (x : Value) (f : Nat) : Steady P (Instr.field t x f) := by
  unfold Instr.field
  repeat' first | exact .pure _ | exact .stuck _ | exact .unsupported _ | exact .runtimePanic _ | exact .boundsPanic _ _ _ _ | exact .asIntOf _ | exact .asAgg _ | exact .asAddr _ | exact .sureAddr _ | exact .underlying _ | exact .sizeOf _ | exact .zeroValue _ | exact .part _ _ _ | refine Steady.bind ?_ (fun _ => ?_) | split | (dsimp only; split)
theorem steady_build (t : TypeId) (ps : Array (Nat × Value)) : Steady P (Instr.build t ps) := by
  unfold Instr.build
  repeat' first | exact .pure _ | exact .stuck _ | exact .unsupported _ | exact .runtimePanic _ | exact .boundsPanic _ _ _ _ | exact .asIntOf _ | exact .asAgg _ | exact .asAddr _ | exact .sureAddr _ | exact .underlying _ | exact .sizeOf _ | exact .zeroValue _ | exact .part _ _ _ | exact Steady.mapM _ (fun _ => (Steady.sizeOf _).bind fun _ => .pure _) _ | refine Steady.bind ?_ (fun _ => ?_) | split | (dsimp only; split)
theorem steady_fieldAt {s : TypeId} {fs : Array Field} {fl : Field} {f : Nat} (hs : P.underlying s = some (.struct fs)) (hf : fs[f]? = some fl) (hz : (P.info? fl.type).any (fun i => i.size != 0) = true) (v : Value) :
    Steady P (Instr.fieldAt s v f) := by
  intro w r w1 hr
  have key : ∀ w, (Instr.fieldAt s v f).run P w = (do let a ← Instr.sureAddr v; pure (Value.pointer (some (a.add fl.offset))) : Sem Value).run P w := by
    intro w
    have hz' : ∃ i, P.info? fl.type = some i ∧ i.size ≠ 0 := by
      cases hi : P.info? fl.type with
      | none => rw [hi] at hz; simp at hz
      | some i => rw [hi] at hz; exact ⟨i, rfl, by simpa using hz⟩
    obtain ⟨i, hi, hz'⟩ := hz'
    simp [Instr.fieldAt, run_underlying hs, hf, fieldPlace, Go.sizeOf, Go.typeInfo, hi, hz']
  rw [key] at hr
  obtain ⟨h1, h2⟩ := ((Steady.sureAddr (P := P) v).bind fun _ => Steady.pure _) _ _ _ hr
  exact ⟨h1, fun w' => by rw [key]; exact h2 w'⟩
theorem Steady.with_underlying {α : Type} {t : TypeId} {d : TypeDesc} {f : TypeDesc → Sem α} (h : P.underlying t = some d) (hf : Steady P (f d)) : Steady P (Go.underlying t >>= f) := by
  intro w r w1 hr
  rw [Sem.run_bind, run_underlying h] at hr
  obtain ⟨h1, h2⟩ := hf _ _ _ hr
  exact ⟨h1, fun w' => by rw [Sem.run_bind, run_underlying h]; exact h2 w'⟩
theorem steady_shift (op : BinOp) (k : IntKind) (a : Int) (k' : IntKind) (b : Int) : Steady P (Op.shift op k a k' b) := by
  unfold Op.shift
  split
  · exact .runtimePanic _
  · dsimp only; split <;> first | exact .pure _ | exact .stuck _
theorem binOp_int (op : BinOp) (t : TypeId) (k k' : IntKind) (a b : Int) : binOp op t (.int k a) (.int k' b) = match op with
    | .shl => Op.shift .shl k a k' b
    | .shr => Op.shift .shr k a k' b
    | .add | .sub | .mul => if k ≠ k' then stuck "BinOp: operands of different kinds" else Op.intArith op k a b
    | .quo | .rem => if k ≠ k' then stuck "BinOp: operands of different kinds" else Op.intDiv op k a b
    | .and | .or | .xor | .andNot => if k ≠ k' then stuck "BinOp: operands of different kinds" else Op.intBits op k a b
    | _ => if k ≠ k' then stuck "BinOp: operands of different kinds" else Op.intCmp op a b := by cases op <;> rfl
theorem steady_int (op : BinOp) (t : TypeId) (k k' : IntKind) (a b : Int) : Steady P (binOp op t (.int k a) (.int k' b)) := by
  rw [binOp_int]
  cases op <;> dsimp only <;> first
    | exact steady_shift _ _ _ _ _
    | (split
       · exact .stuck _
       · first
          | exact .pure _
          | (unfold Op.intDiv; split <;> first | exact .runtimePanic _ | exact .pure _))
theorem steady_string (op : BinOp) (t : TypeId) (a b : ByteArray) : Steady P (binOp op t (.string a) (.string b)) := by
  have h : binOp op t (.string a) (.string b) = Op.stringOp op a b := by cases op <;> rfl
  rw [h]
  unfold Op.stringOp
  dsimp only
  repeat' split
  all_goals first | exact .pure _ | exact .stuck _ | exact .unsupported _
theorem steady_bool (op : BinOp) (t : TypeId) (x y : Value) (hop : op ≠ .eql ∧ op ≠ .neq) (hx : plainV x = true) (hy : plainV y = true) : Steady P (binOp op t x y) := by
  cases x <;> simp [plainV] at hx <;> cases y <;> simp [plainV] at hy
  case int.int => exact steady_int _ _ _ _ _ _
  case string.string => exact steady_string _ _ _ _
  all_goals (obtain ⟨h1, h2⟩ := hop; cases op <;> first | exact absurd rfl h1 | exact absurd rfl h2 | exact .stuck _)
theorem steady_equal {t : TypeId} {d : TypeDesc} (h : P.underlying t = some d) (hd : (isI d || (d matches .string) || (d matches .bool)) = true) {x y : Value} (hv : eqOk x y = true) : Steady P (Op.equal t x y) := by
  unfold Op.equal Op.maxDepth
  rw [show (10000 : Nat) = 9999 + 1 from rfl]
  unfold Op.equalIn
  refine Steady.with_underlying h ?_
  have hite : ∀ (c : Prop) [Decidable c] (b : Bool) (s : String), Steady P (if c then (Pure.pure b : Sem Bool) else stuck s) := fun c _ b s => by
    split
    · exact .pure _
    · exact .stuck _
  cases x with
  | float k b => cases y <;> cases hv
  | complex k a b => cases y <;> cases hv
  | pointer a =>
    cases y with
    | pointer b => cases d <;> simp [isI] at hd <;> cases a <;> cases b <;> first | exact .unsupported _ | exact .stuck _ | cases hv
    | _ => cases a <;> cases hv
  | _ =>
    cases y with
    | pointer b => cases b <;> cases hv
    | _ => cases d <;> simp [isI] at hd <;> first | exact .pure _ | exact .stuck _ | exact hite _ _ _
theorem Never.with_underlying {α : Type} {t : TypeId} {d : TypeDesc} {f : TypeDesc → Sem α} (h : P.underlying t = some d) (hf : Never P (f d)) : Never P (Go.underlying t >>= f) := fun w r w1 hr => by
  rw [Sem.run_bind, run_underlying h] at hr
  exact hf _ _ _ hr
theorem never_equal {t : TypeId} {d : TypeDesc} (h : P.underlying t = some d) (hd : (isI d || (d matches .string) || (d matches .bool)) = true) {x y : Value} (hv : (∃ a b, x = .agg a ∧ y = .agg b) ∨ (x = .nilIface ∧ y = .nilIface)) : Never P (Op.equal t x y) := by
  unfold Op.equal Op.maxDepth
  rw [show (10000 : Nat) = 9999 + 1 from rfl]
  unfold Op.equalIn
  refine Never.with_underlying h ?_
  rcases hv with ⟨a, b, rfl, rfl⟩ | ⟨rfl, rfl⟩ <;> cases d <;> simp [isI] at hd <;> exact .stuck _
theorem Never.then {α β : Type} {s : Sem α} {f : α → Sem β} (hs : Never P s) : Never P (s >>= f) := fun w r w1 hr => by
  rw [Sem.run_bind] at hr
  cases he : s.run P w with
  | ok b w2 => exact hs _ _ _ he
  | halt b w2 => rw [he] at hr; simp at hr
theorem steady_eq {op : BinOp} (hop : op = .eql ∨ op = .neq) {t : TypeId} {d : TypeDesc} (h : P.underlying t = some d) (hd : (isI d || (d matches .string) || (d matches .bool)) = true) {X Y : Operand} {x y : Value} (hv : eqOk x y = true) :
    Steady P (do eqGuard op t X Y x y; binOp op t x y) := by
  have hq := steady_equal h hd hv
  have h0 : Steady P (do pure (Value.bool (← Op.equal t x y)) : Sem Value) := hq.bind fun _ => .pure _
  have h1 : Steady P (do pure (Value.bool (!(← Op.equal t x y))) : Sem Value) := hq.bind fun _ => .pure _
  cases x with
  | int k a =>
    cases y with
    | int k' b => rcases hop with rfl | rfl <;> exact Steady.bind (.pure ()) fun _ => steady_int _ _ _ _ _ _
    | _ => rcases hop with rfl | rfl <;> first | exact Steady.bind (.pure ()) fun _ => h0 | exact Steady.bind (.pure ()) fun _ => h1
  | string a =>
    cases y with
    | string b => rcases hop with rfl | rfl <;> exact Steady.bind (.pure ()) fun _ => steady_string _ _ _ _
    | _ => rcases hop with rfl | rfl <;> first | exact Steady.bind (.pure ()) fun _ => h0 | exact Steady.bind (.pure ()) fun _ => h1
  | float k a => cases y <;> cases hv
  | complex k a b => cases y <;> cases hv
  | agg a =>
    cases y with
    | agg b =>
      have hn := never_equal h hd (x := .agg a) (y := .agg b) (.inl ⟨_, _, rfl, rfl⟩)
      rcases hop with rfl | rfl <;> exact (Never.bind fun _ => hn.then).steady
    | _ => rcases hop with rfl | rfl <;> first | exact Steady.bind (.pure ()) fun _ => h0 | exact Steady.bind (.pure ()) fun _ => h1
  | nilIface =>
    cases y with
    | nilIface =>
      have hn := never_equal h hd (x := .nilIface) (y := .nilIface) (.inr ⟨rfl, rfl⟩)
      rcases hop with rfl | rfl <;> exact (Never.bind fun _ => hn.then).steady
    | _ => rcases hop with rfl | rfl <;> first | exact Steady.bind (.pure ()) fun _ => h0 | exact Steady.bind (.pure ()) fun _ => h1
  | _ => cases y <;> rcases hop with rfl | rfl <;> first | exact Steady.bind (.pure ()) fun _ => h0 | exact Steady.bind (.pure ()) fun _ => h1

theorem steady_len {ats : Array TypeId} (hl : (match (ats[0]?).bind P.underlying with | some .string | some (.slice _) => true | _ => false) = true) (ty : TypeId) (args : Array Value) : Steady P (Builtin.len_ ats ty args) := by
  unfold Builtin.len_
  cases h0 : ats[0]? with
  | none => rw [h0] at hl; cases hl
  | some t =>
    rw [h0] at hl
    cases h1 : args[0]? with
    | none => exact .stuck _
    | some x =>
      simp only [Option.bind_some] at hl
      cases hu : P.underlying t with
      | none => rw [hu] at hl; cases hl
      | some d =>
        rw [hu] at hl
        refine Steady.with_underlying hu ?_
        cases d <;> first | (cases hl; done) | skip
        all_goals cases x <;> first | exact .pure _ | exact .stuck _
/-- A light operation, its operands' values as 'dynB' asks: what it yields it yields in every world. -/
theorem light_steady {o : Oper} {ρ : Operand → Value} (hl : lightB P o.op = true) (hd : dynB ρ o.op = true) : Steady P (execOp ρ o) ∧ ∀ w r w1, (execOp ρ o).run P w = .ok r w1 → ∃ v, r = .value v := by
  have val : ∀ s : Sem Value, Steady P s → Steady P (do pure (.value (← s)) : Sem Next) ∧ ∀ w r w1, (do pure (.value (← s)) : Sem Next).run P w = .ok r w1 → ∃ v, r = .value v := fun s hs =>
    ⟨hs.bind fun _ => .pure _, fun w r w1 hr => by
      rw [Sem.run_bind] at hr
      cases he : s.run P w with
      | ok b w2 => rw [he] at hr; simp only [Result.andThen_ok, Sem.run_pure, Result.ok.injEq] at hr; exact ⟨b, hr.1.symm⟩
      | halt b w2 => rw [he] at hr; simp at hr⟩
  obtain ⟨dst, op, type, pos, after, guard⟩ := o
  cases op <;> simp only [lightB, Bool.false_eq_true] at hl <;> unfold execOp <;> dsimp only
  case move x => exact ⟨.pure _, fun w r w1 hr => by simp only [Sem.run_pure, Result.ok.injEq] at hr; exact ⟨_, hr.1.symm⟩⟩
  case assign x => exact ⟨.pure _, fun w r w1 hr => by simp only [Sem.run_pure, Result.ok.injEq] at hr; exact ⟨_, hr.1.symm⟩⟩
  case build t ps => exact val _ (steady_build _ _)
  case pick c a b =>
    refine ⟨(Steady.asBool _).bind fun _ => .pure _, fun w r w1 hr => ?_⟩
    rw [Sem.run_bind] at hr
    cases he : (asBool (ρ c)).run P w with
    | ok b w2 => rw [he] at hr; simp only [Result.andThen_ok, Sem.run_pure, Result.ok.injEq] at hr; exact ⟨_, hr.1.symm⟩
    | halt b w2 => rw [he] at hr; simp at hr
  case unOp u t x =>
    refine val _ ?_
    unfold Op.unary Op.intArith Op.intBits
    split <;> first | exact .pure _ | exact .unsupported _ | exact .stuck _
  case slice t x lo hi mx => exact val _ (steady_sliceAt _ _ _ _ _)
  case indexAddr t x i => exact val _ (steady_indexAt _ _ _)
  case index t x i => exact val _ (steady_index _ _ _)
  case field t x f => exact val _ (steady_field _ _ _)
  case extract x i =>
    refine val _ ?_
    unfold Instr.extract
    split
    · split <;> first | exact .pure _ | exact .stuck _
    · exact .stuck _
  case makeInterface t x =>
    refine val _ ?_
    unfold Instr.makeInterface
    refine (Steady.underlying _).bind fun d => ?_
    split <;> first | exact .pure _ | exact .stuck _
  case makeFunc fn a b => exact val _ (.pure _)
  case nilCheck x =>
    dsimp only [dynB] at hd
    split
    all_goals first
      | exact ⟨.runtimePanic _, fun w r w1 hr => absurd hr (Never.runtimePanic _ _ _ _)⟩
      | (rename_i he; rw [he] at hd; cases hd; done)
      | exact ⟨.pure _, fun w r w1 hr => by simp only [Sem.run_pure, Result.ok.injEq] at hr; exact ⟨_, hr.1.symm⟩⟩
  case fieldAddr s x f =>
    refine val _ ?_
    cases hs : P.underlying s with
    | none => rw [hs] at hl; cases hl
    | some d =>
      rw [hs] at hl
      cases d with
      | struct fs =>
        dsimp only at hl
        cases hf : fs[f]? with
        | none => rw [hf] at hl; cases hl
        | some fl => rw [hf] at hl; exact steady_fieldAt hs hf hl _
      | _ => cases hl
  case convert s d x =>
    refine val _ ?_
    dsimp only [dynB] at hd
    unfold convert
    cases hs : P.underlying s with
    | none => rw [hs] at hl; cases hl
    | some ds =>
      cases hd' : P.underlying d with
      | none => rw [hs, hd'] at hl; cases ds <;> cases hl
      | some dd =>
        rw [hs, hd'] at hl
        refine Steady.with_underlying hs (Steady.with_underlying hd' ?_)
        cases ds <;> cases dd <;> first | (cases hl; done) | skip
        cases hv : ρ x <;> rw [hv] at hd <;> first | (cases hd; done) | exact .pure _ | exact .unsupported _
  case binOp op t x y yt =>
    refine val _ ?_
    by_cases hop : op = .eql ∨ op = .neq
    · have hl' : (match P.underlying t with | some (.int _) | some .string | some .bool => true | _ => false) = true := by rcases hop with rfl | rfl <;> exact hl
      have hd' : eqOk (ρ x) (ρ y) = true := by rcases hop with rfl | rfl <;> exact hd
      cases hs : P.underlying t with
      | none => rw [hs] at hl'; cases hl'
      | some d => rw [hs] at hl'; exact steady_eq hop hs (by cases d <;> first | rfl | cases hl') hd'
    · have h1 : op ≠ .eql := fun h => hop (.inl h)
      have h2 : op ≠ .neq := fun h => hop (.inr h)
      have hd' : (plainV (ρ x) && plainV (ρ y)) = true := by cases op <;> first | exact hd | exact absurd rfl h1 | exact absurd rfl h2
      simp only [Bool.and_eq_true] at hd'
      have hg : eqGuard op t x y (ρ x) (ρ y) = pure () := by cases op <;> first | rfl | exact absurd rfl h1 | exact absurd rfl h2
      rw [hg]
      exact Steady.bind (.pure ()) fun _ => steady_bool op t _ _ ⟨h1, h2⟩ hd'.1 hd'.2
  case call c =>
    obtain ⟨cal, args, ats⟩ := c
    cases cal with
    | builtin b =>
      cases b <;> first | (cases hl; done) | skip
      have hx : ∀ (x : Deferred) (f : Deferred → Sem Next), ((pure x : Sem Deferred) >>= f) = f x := fun x f => pure_bind x f
      unfold resolve
      dsimp only
      rw [hx]
      exact val _ (steady_len hl _ _)
    | _ => cases hl
end
end Ox
