/- Store: the first one put in; a search among at most one. -/
import Derived.Test.YtolcjcdnkiabpaaS3
namespace Go.Proofs.Ytolcjcdnkiabpaa
open Go.RowKit

theorem Try.info42 : (Try.prog.info? 42).map (fun i => (i.zero, i.size, i.bytes)) = some (some (.agg (crL (.slice none 0 0) { data := #[] } 0 0 false).toArray), 12, 168) := by kernel_rfl

/-- Credentials without keys. -/
abbrev Cr := List Int × ByteArray × Int × Int × Bool
def tCr : Ty Cr where
  size := 12
  bytes := 168
  enc := fun S w cs x => ∃ A n c, cs = crL (.slice A n c) x.2.1 x.2.2.1 x.2.2.2.1 x.2.2.2.2 ∧ SR S w tU8 A n c x.1
  len := by rintro _ _ _ _ ⟨A, n, c, rfl, _⟩; rfl
  one := by rintro _ _ _ _ ⟨A, n, c, rfl, _⟩ v hv; simp at hv; rcases hv with rfl | rfl | rfl | rfl | rfl | rfl | rfl | rfl | rfl | rfl <;> rfl
  mono := fun k ⟨A, n, c, h1, h2⟩ => ⟨A, n, c, h1, h2.mono k⟩
  weaken := fun hs ⟨A, n, c, h1, h2⟩ => ⟨A, n, c, h1, h2.weaken (by decide) hs⟩

section
variable {P : Program} {ops : Array Oper} {rest : List Oper} {o : Oper} {a : Act} {Q : Exit → Act → World → Prop} {w : World}
/-- append(nil, one...): a new row whose first cells are the one's. -/
theorem wl_app_nil1 {t e : TypeId} {z : Value} {size bytes g : Nat} {bt : TypeId} {ds : List Value} {s x : Operand}
    (ho : o.op = .call { callee := .builtin .append, args := #[s, x], argTypes := #[t, t] }) (hB : Bx w g bt ds) (hd : ds.length = size) (h1 : ∀ u ∈ ds, u.oneCell' = true)
    (ht : P.underlying t = some (.slice e)) (hinfo : (P.info? e).map (fun i => (i.zero, i.size, i.bytes)) = some (some z, size, bytes)) (hzs : z.cells.size = size) (hp : 0 < size) (hby : bytes ≤ 140737488355328)
    (hw : Region.wanted o (yielded ops a.tmps) = true) (hs : a.eval s = .slice none 0 0) (hx : a.eval x = .slice (some ⟨g, 0, none⟩) 1 1)
    (k : ∀ b c more w', Ext w w' → w.heap.size ≤ b → 1 ≤ c → Bx w' b e (ds ++ more) → wpList P ops Q rest (a.put o.dst (.slice (some ⟨b, 0, none⟩) 1 c)) w') :
    wpList P ops Q (o :: rest) a w := by
  obtain ⟨i0, hi, hz⟩ := Option.map_eq_some_iff.1 hinfo
  simp only [Prod.mk.injEq] at hz
  obtain ⟨hz0, hz1, hz2⟩ := hz
  obtain ⟨v', w', hr, ho', hg, _⟩ := run_append_own (P := P) w w.heap.size t o.type e i0 z size bytes ht hi hz0 hz1 hz2 hzs hp (.slice none 0 0) 0 [] (World.ownsRow_nil w _ e size) ⟨g, 0, none⟩ 1 1 ds (by rw [hd]; omega) (fun j u hu => by rw [add_lit0, hB.cell]; exact hu) h1 (by decide) (by omega) (Nat.le_refl _)
  have hE : Ext w w' := OnS.grown hg (fun _ _ e => by cases e)
  rcases ho'.2 with ⟨_, h⟩ | ⟨b, cap, cur, rfl, hb, hh, hc, _, _, htk⟩
  · omega
  · refine wl_run hw (v := .slice (some ⟨b, 0, none⟩) (0 + 1) cap) (w' := w') ?_ ?_
    · unfold execOp
      simp only [ho, resolve, invoke, builtin, Sem.run_bind, Sem.run_pure, Result.andThen_ok, List.map_toArray, List.map_cons, List.map_nil, hs, hx, hr]
    · refine k b cap (cur.toList.drop ((0 + 1) * size)) w' hE hb (by omega) ⟨?_⟩
      rw [hh]
      congr 2
      have := List.take_append_drop ((0 + 1) * size) cur.toList
      rw [htk] at this
      simp only [List.nil_append] at this
      rw [this]
end

set_option maxRecDepth 100000 in
set_option maxHeartbeats 2000000 in
theorem insert_nil {g : Nat} {x : Cr} {ds : List Value} (w : World) (hB : Bx w g 42 ds) (hE : tCr.enc (fun k => k < w.heap.size) w ds x) :
    Calls Try.prog 29 #[.slice none 0 0, .int .i64 0, .slice (some ⟨g, 0, none⟩) 1 1] w fun e w' => ∃ b c rest, e = .returned (.slice (some ⟨b, 0, none⟩) 1 c) ∧ Ext w w' ∧ w.heap.size ≤ b ∧ Bx w' b 42 (ds ++ rest) := by
  go_enter Try.func29, Try.ntmps29
  repeat' ((fail_if_success at_builtin); first | go_values | go_skip | go_guarded | go_step)
  refine wl_app_nil1 rfl hB (tCr.len hE) (tCr.one hE) Try.underlying49 Try.info42 rfl (by decide) (by decide) rfl rfl rfl ?_
  intro b c more w2 hE2 hb hc hB2
  repeat' (first | go_values | go_skip | go_guarded | go_step)
  go_ret
  exact ⟨b, c, more, rfl, hE2, hb, hB2⟩

/-- find$1. -/
theorem find1 {S : Nat → Prop} {A B : Option Addr} {n c m d : Nat} {xs ys : List Int} (w : World) (user : ByteArray) (count trust : Int) (cloned : Bool) (HA : SR S w tU8 A n c xs) (HB : SR S w tU8 B m d ys) :
    Calls Try.prog 49 #[.agg (crL (.slice A n c) user count trust cloned).toArray, .slice B m d] w fun e w' => e = .returned (.int .i64 (cmpB xs ys)) ∧ Ext w w' := by
  go_enter Try.func49, Try.ntmps49
  repeat' (first | go_values | go_skip | go_guarded | go_step)
  generalize hw1 : World.alloc w _ = w1
  have hE : Ext w w1 := hw1 ▸ OnS.alloc _ _
  clear hw1
  refine (compare_any w1 (HA.mono (OnS.ext hE)) (HB.mono (OnS.ext hE))).mono ?_
  rintro e w2 ⟨rfl, rfl⟩
  dsimp only
  repeat' (first | go_values | go_skip | go_guarded | go_step)
  go_ret
  exact ⟨rfl, hE⟩

set_option maxRecDepth 100000 in
set_option maxHeartbeats 2000000 in
theorem search_nil {B : Option Addr} {m d : Nat} (w : World) : Calls Try.prog 48 #[.slice none 0 0, .slice B m d, .func (.func 49) #[] #[]] w fun e w' => e = .returned (.tuple #[.int .i64 0, .bool false]) ∧ Ext w w' := by
  go_enter Try.func48, Try.ntmps48
  repeat' (first | go_values | go_skip | go_guarded | go_step)
  refine wp_loop_rounds 1 ?_
  simp only [Code.rounds]
  repeat' (first | go_values | go_skip | go_guarded | go_step)
  go_ret2
  exact ⟨rfl, OnS.refl _ _⟩

set_option maxRecDepth 100000 in
set_option maxHeartbeats 2000000 in
theorem search_one {S : Nat → Prop} {A B : Option Addr} {n c m d g cap : Nat} {xs : List Int} {more : List Value} (w : World) (user : ByteArray) (count trust : Int) (cloned : Bool) (hg : Bx w g 42 (crL (.slice A n c) user count trust cloned ++ more)) (HA : SR S w tU8 A n c xs) (HB : SR S w tU8 B m d xs) :
    Calls Try.prog 48 #[.slice (some ⟨g, 0, none⟩) 1 cap, .slice B m d, .func (.func 49) #[] #[]] w fun e w' => e = .returned (.tuple #[.int .i64 0, .bool true]) ∧ Ext w w' := by
  go_enter Try.func48, Try.ntmps48
  repeat' (first | go_values | go_skip | go_guarded | go_step)
  refine wp_loop_rounds 2 ?_
  simp only [Code.rounds]
  repeat' ((fail_if_success (with_reducible refine wl_run (o := ⟨_, .load 42 _, _, _, _, _⟩) (w' := ?_) (v := ?_) ?_ ?_ ?_)); first | go_values | go_skip | go_guarded | go_step)
  refine wl_load_part (vs := crL (.slice A n c) user count trust cloned) (off := 0) rfl hg rfl rfl (by kernel_rfl) rfl rfl ?_
  repeat' (first | go_values | go_skip | go_guarded | go_step)
  refine (find1 w user count trust cloned HA HB).mono ?_
  rw [cmpB_self]
  rintro e w2 ⟨rfl, hE2⟩
  dsimp only
  have hg2 := hg.to hE2 trivial
  repeat' ((fail_if_success (with_reducible refine wl_run (o := ⟨_, .load 42 _, _, _, _, _⟩) (w' := ?_) (v := ?_) ?_ ?_ ?_)); first | go_values | go_skip | go_guarded | go_step)
  refine wl_load_part (vs := crL (.slice A n c) user count trust cloned) (off := 0) rfl hg2 rfl rfl (by kernel_rfl) rfl rfl ?_
  repeat' (first | go_values | go_skip | go_guarded | go_step)
  refine (find1 w2 user count trust cloned (HA.mono (OnS.ext hE2)) (HB.mono (OnS.ext hE2))).mono ?_
  rw [cmpB_self]
  rintro e w3 ⟨rfl, hE3⟩
  dsimp only
  repeat' (first | go_values | go_skip | go_guarded | go_step)
  go_ret2
  exact ⟨rfl, hE2.trans hE3⟩
end Go.Proofs.Ytolcjcdnkiabpaa
