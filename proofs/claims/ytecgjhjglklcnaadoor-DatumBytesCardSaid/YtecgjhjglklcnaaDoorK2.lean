/-
  append onto a slice of the call's own at a step of a region that draws its order.
-/
import Derived.Test.YtecgjhjglklcnaaDoorK1
import Derived.Deep.RegionLaw
import Derived.Deep.AppendLies
namespace Go.Proofs.YtecgjhjglklcnaaDoor
open Go.RowKit
theorem step_app {P : Program} {t e : TypeId} {z : Value} {size bytes : Nat} (S : STy P t e z size bytes) {w : World} {ops : Array Oper} {o : Oper} {a : Act} {K : Act → World → Prop} {Q : Exit → Act → World → Prop} {E : Prop}
    (hgd : o.guard = none) (s x : Operand) (ho : o.op = .call { callee := .builtin .append, args := #[s, x], argTypes := #[t, t] })
    (base : Nat) {v : Value} {n : Nat} {xs : List Value} (hs : a.eval s = v) (hown : w.ownsRow base e size v n xs)
    {ad : Option Addr} {m c : Nat} {news : List Value} (hx : a.eval x = .slice ad m c) (hr : Rd w ad m c size news) (h1 : ∀ u ∈ news, u.oneCell' = true)
    (hm : 0 < m) (hbytes : (n + m) * bytes ≤ 140737488355328) (h63 : n + m ≤ maxLen) (hbase : base ≤ w.heap.size)
    (hK : ∀ v' w', w'.ownsRow base e size v' (n + m) (xs ++ news) → Below base w w' → K (a.put o.dst v') w') :
    if Region.wanted o (yielded ops a.tmps) = true then Oper.wp P o a w K Q else E := by
  obtain ⟨i, hi0, hi1, hi2, hi3⟩ := S.info
  obtain ⟨b, off, rfl, hb, hcell⟩ := hr.at (Nat.mul_pos hm S.pos)
  refine step_append_lies w hgd s x t ho base e i z size bytes S.ht hi0 hi1 hi2 hi3 S.zs S.pos v n xs hs hown ⟨b, off, none⟩ m c news hx hr.2.2.2.1
    (fun j u hj => by rw [Addr.add_none]; exact hcell j u hj) h1 hm h63 hbytes hbase w.heap.size rfl fun g cap w' h2 h3 _ _ => hK _ w' h2 ((Below.refl _ _).grown h3 hbase (fun k hk => (hown.lt k hk).1))
end Go.Proofs.YtecgjhjglklcnaaDoor
