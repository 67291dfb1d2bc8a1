/- append of a whole slice, over any program. -/
import Derived.Test.YtdhpbfmamkndjaaBase
import Derived.Test.YtdhpbfmamkndjaaRegionB
namespace Ox
open Go Go.RowKit
set_option linter.unusedVariables false
/-- 'out = append(out, x...)', x a slice that is read -/
theorem wpList_pushAll {P : Program} {w W0 : World} {ops : Array Oper} {rest : List Oper} {o : Oper} {a : Act} {Q : Exit → Act → World → Prop} (s x : Operand) (t e : TypeId) (size bytes : Nat)
    (ho : o.op = .call { callee := .builtin .append, args := #[s, x], argTypes := #[t, t] }) (hgd : o.guard = none)
    (ht : P.underlying t = some (.slice e)) {z : Value} (hi : (P.info? e).map (fun i => (i.zero, i.size, i.bytes)) = some (some z, size, bytes)) (hzs : z.cells.size = size) (hsz : 0 < size)
    {base B n m c B1 : Nat} {A : Option Addr} {v : Value} {xs news : List Value} (hs : a.eval s = v) (hx : a.eval x = .slice A m c)
    (hr : Reads w B1 size A m news) (h1 : ∀ u ∈ news, u.oneCell' = true)
    (hown : w.ownsRow base e size v n xs) (hb : Below B W0 w) (hB : B ≤ base) (hB' : B ≤ w.heap.size) (hbase : base ≤ w.heap.size) (hn : (n + m) * bytes ≤ 140737488355328) (hn' : n + m ≤ 140737488355328)
    (h : ∀ v' w', w'.ownsRow base e size v' (n + m) (xs ++ news) → Below B W0 w' → w.heap.size ≤ w'.heap.size → w.grownBy w' v.ownBlock → wpList P ops Q rest (a.put o.dst v') w') :
    wpList P ops Q (o :: rest) a w := by
  obtain ⟨i0, hi0, hz0, hz1, hz2⟩ := info_parts hi
  exact wpList_append_any w hgd s x t ho base e i0 z size bytes ht hi0 hz0 hz1 hz2 hzs hsz v n xs hs hown B1 A m c news hx hr h1 (by simp only [maxLen]; omega) hn hbase
    fun v' w' h2 h3 _ => h v' w' h2 (below_grown_own hb hown h3 hB hB') h3.size h3
/-- 'wp_region_text', the world behind the draw by its name: for a second region that draws -/
theorem wp_region_drew {P : Program} {Q : Exit → Act → World → Prop} {l : List Oper} {id : Nat} {a : Act} {w : World} (hm : P.follows .mixedOrders = true) (hB : textB P l.toArray = true)
    (h : wpList P l.toArray (FinQ l.toArray Q) l a w.drew) : (Code.region id l.toArray true).wp P Q a w := wp_region_text hm hB h
end Ox
