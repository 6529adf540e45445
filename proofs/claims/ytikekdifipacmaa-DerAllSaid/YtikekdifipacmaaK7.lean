/- The steps again, in a round of a range over a function. Over any program. -/
import Derived.Test.YtikekdifipacmaaK6
import Derived.RangeFuncNested
import Derived.RangeFuncBound
import Derived.RangeFuncCalls
import Derived.RangeFuncLeaves
import Derived.OwnWalkIn
import Derived.TacticsInMore
import Derived.LoopNIn
import Derived.LoopIn
namespace Go.Proofs.Ytikekdifipacmaa
open Go.RowKit

section
variable {F : Fence} {n : Nat} {P : Program} {ops : Array Oper} {rest : List Oper} {o : Oper} {a : Act} {Q : Exit → Act → World → Prop} {w : World}

theorem wlIn_run {v : Value} {w' : World} (hF : ∀ f, F.fn f) (hd : ∀ c, o.op ≠ .defer c) (hw : Region.wanted o (yielded ops a.tmps) = true) (hr : (execOp a.eval o).run P w = .ok (.value v) w')
    (h : wpListIn F n P ops Q rest (a.put o.dst v) w') : wpListIn F n P ops Q (o :: rest) a w := by
  refine wpListIn_step fun K hK => ?_
  rw [if_pos hw]
  refine ⟨fun f _ => hF f, ?_⟩
  have hs : o.semAt F.round a.eval = execOp a.eval o := by
    cases hr' : F.round with
    | none => rfl
    | some l => exact Oper.semAt_some l _ o hd
  rw [hs, hr]
  exact hK _ _ h

theorem wlIn_append {α : Type} {T : Ty α} {S S' : Nat → Prop} {base : Nat} {v : Value} {xs ys : List α} {A : Option Addr} {m c : Nat} {t e : TypeId} {z : Value} {s x : Operand} (hF : ∀ f, F.fn f)
    (ho : o.op = .call { callee := .builtin .append, args := #[s, x], argTypes := #[t, t] }) (HO : OwnR S w base e T v xs) (HS : SR S' w T A m c ys) (hE : ∀ cs, Encs S' w T cs ys → Encs S w T cs ys)
    (ht : P.underlying t = some (.slice e)) (hinfo : (P.info? e).map (fun i => (i.zero, i.size, i.bytes)) = some (some z, T.size, T.bytes)) (hzs : z.cells.size = T.size) (hp : 0 < T.size)
    (hw : Region.wanted o (yielded ops a.tmps) = true) (hs : a.eval s = v) (hx : a.eval x = .slice A m c) (hb : base ≤ w.heap.size) (hl : (xs.length + m) * T.bytes ≤ 140737488355328) (hl2 : xs.length + m ≤ 140737488355328)
    (hS : ∀ k, S k → some k ≠ v.ownBlock)
    (k : ∀ v' w', OwnR S w' base e T v' (xs ++ ys) → w.grownBy w' v.ownBlock → (v'.ownBlock = v.ownBlock ∨ v'.ownBlock = some w.heap.size) → (v' = .slice none 0 0 ↔ v = .slice none 0 0 ∧ m = 0) → wpListIn F n P ops Q rest (a.put o.dst v') w') :
    wpListIn F n P ops Q (o :: rest) a w := by
  obtain ⟨v', w', hr, h1, h2, h3, h4⟩ := run_append (P := P) (ty := o.type) HO HS hE ht hinfo hzs hp hb hl hl2 hS
  refine wlIn_run hF (by rw [ho]; simp) hw (v := v') (w' := w') ?_ (k v' w' h1 h2 h3 h4)
  unfold execOp
  simp only [ho, resolve, invoke, builtin, Sem.run_bind, Sem.run_pure, Result.andThen_ok, List.map_toArray, List.map_cons, List.map_nil, hs, hx, hr]
end
end Go.Proofs.Ytikekdifipacmaa
