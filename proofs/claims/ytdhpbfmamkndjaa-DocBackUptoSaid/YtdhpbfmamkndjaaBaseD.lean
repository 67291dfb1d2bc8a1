/- append of one element, saying where the new row lies. Over any program. -/
import Derived.Test.YtdhpbfmamkndjaaBase
import Derived.Maps.AppendAt
namespace Ox
open Go Go.RowKit
set_option linter.unusedVariables false
/-- as 'wpList_push', and: the new row lies where the old one lay, or in a block that is new -/
theorem wpList_pushAt {P : Program} {W W0 : World} {ops : Array Oper} {rest : List Oper} {o : Oper} {a : Act} {Q : Exit → Act → World → Prop} (s x : Operand) (t e : TypeId) (size bytes : Nat) (news : List Value)
    (ho : o.op = .call { callee := .builtin .append, args := #[s, x], argTypes := #[t, t] }) (hgd : o.guard = none)
    (ht : P.underlying t = some (.slice e)) {z : Value} (hi : (P.info? e).map (fun i => (i.zero, i.size, i.bytes)) = some (some z, size, bytes)) (hzs : z.cells.size = size) (hsz : 0 < size)
    {base B n : Nat} {v : Value} {xs : List Value} (hs : a.eval s = v) (hx : a.eval x = .slice (some ⟨W.heap.size, 0, none⟩) 1 1)
    (hown : W.ownsRow base e size v n xs) (hb : Below B W0 W) (hB : B ≤ base) (hbase : base ≤ W.heap.size) (hl : news.length = size) (h1 : ∀ u ∈ news, u.oneCell' = true) (hn : (n + 1) * bytes ≤ 140737488355328) (hn' : n ≤ 140737488355328)
    (h : ∀ v' w', w'.ownsRow base e size v' (n + 1) (xs ++ news) → Below B W0 w' → W.heap.size < w'.heap.size → W.grownBy w' v.ownBlock → (∀ g, v'.ownBlock = some g → v.ownBlock = some g ∨ W.heap.size ≤ g) → wpList P ops Q rest (a.put o.dst v') w') :
    wpList P ops Q (o :: rest) a (W.alloc (.cells news.toArray e)) := by
  obtain ⟨i0, hi0, hz0, hz1, hz2⟩ := info_parts hi
  refine wpList_append_any _ hgd s x t ho base e i0 z size bytes ht hi0 hz0 hz1 hz2 hzs hsz v n xs hs (hown.alloc _) (W.heap.size + 1) (some ⟨W.heap.size, 0, none⟩) 1 1 news hx ?_ h1 (by simp only [maxLen]; omega) hn (by simp; omega) ?_
  · refine ⟨by omega, fun _ => ⟨_, rfl, by simp, fun j u hu => ?_⟩⟩
    rw [Addr.add_lit, Nat.zero_add, cell_of_row _ _ _ _ _ _ (heap_alloc_new W _)]
    simpa using hu
  · intro v' w' hown' hg hloc
    have hlt := hown.lt
    refine h v' w' hown' ?_ ?_ ?_ ?_
    · exact (hb.alloc (by omega) _).grown hg (by simp; omega) fun k hk => Nat.le_trans hB (hlt k hk).1
    · have := hg.size; simp at this; omega
    · exact ⟨hg.os, hg.tape, hg.output, by have := hg.size; simp at this; omega, fun k hk hne => (hg.block k (by simp; omega) hne).trans (Below.heap_alloc W _ k hk)⟩
    · intro g hgv
      rcases hloc with e1 | e1
      · exact .inl (by rw [← e1]; exact hgv)
      · rw [e1] at hgv
        simp at hgv
        exact .inr (by omega)
end Ox
