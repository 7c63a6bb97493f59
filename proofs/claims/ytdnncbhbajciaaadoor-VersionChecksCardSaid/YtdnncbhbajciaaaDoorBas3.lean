/- append of one thing just built, in a region of one order. -/
import Derived.Test.YtdnncbhbajciaaaDoorBas2
namespace Go.Proofs.YtdnncbhbajciaaaDoor
open Go.RowKit
theorem wpList_append_one {P : Program} {w : World} {ops : Array Oper} {rest : List Oper} {o : Oper} {a : Act} {Q : Exit → Act → World → Prop} (hgd : o.guard = none) (s x : Operand) (t e : TypeId) (z : Value) (size bytes : Nat)
    (ho : o.op = .call { callee := .builtin .append, args := #[s, x], argTypes := #[t, t] }) (ht : P.underlying t = some (.slice e))
    (hinfo : (P.info? e).map (fun i => (i.zero, i.size, i.bytes)) = some (some z, size, bytes)) (hzs : z.cells.size = size) (hsz : 0 < size)
    (base : Nat) (v : Value) (n : Nat) (xs : List Value) (hs : a.eval s = v) (hown : w.ownsRow base e size v n xs)
    (news : List Value) (hx : a.eval x = .slice (some ⟨w.heap.size, 0, none⟩) 1 1) (hl : news.length = size) (h1 : ∀ u ∈ news, u.oneCell' = true)
    (hn : n + 1 ≤ 1000000000000) (hby : bytes ≤ 100) (hbase : base ≤ w.heap.size)
    (h : ∀ v' w', w'.ownsRow base e size v' (n + 1) (xs ++ news) → Below base w w' → wpList P ops Q rest (a.put o.dst v') w') : wpList P ops Q (o :: rest) a (w.alloc (.cells news.toArray e)) :=
  wpList_plain hgd fun _ hK => wp_append_blk s x t e z size bytes ho ht hinfo hzs hsz base v n xs hs (hown.alloc _) w.heap.size 1 news hx (Blk.new w e news.toArray) hl h1 hn hby (by simp; omega)
    fun v' w' h1 h2 _ => hK _ _ (h v' w' h1 (((Below.refl _ _).alloc hbase _).trans h2))
end Go.Proofs.YtdnncbhbajciaaaDoor
