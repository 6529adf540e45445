import Derived.Test.YtikekdifipacmaaD4
import Derived.RangeFuncNested
import Derived.RangeFuncBound
import Derived.RangeFuncCalls
import Derived.RangeFuncLeaves
import Derived.OwnWalkIn
import Derived.TacticsInMore
import Derived.LoopNIn
import Derived.LoopIn
namespace Go.Proofs.Ytikekdifipacmaa
open Go.RowKit
attribute [local go_sem] Oper.semAt_some

theorem derRead_shorter (b : List Int) (h : (derRead b).2.2.2 = 0) : (derRead b).2.2.1.length < b.length := by
  unfold derRead at h ⊢
  (repeat' split) <;> simp_all <;> omega

/-- The pieces of bytes, each with its error; the first fault ends them. -/
def derAll (b : List Int) : List ((Int × List Int) × Int) :=
  if b = [] then [] else
    ((((derRead b).1, (derRead b).2.1), (derRead b).2.2.2)) :: (if h : (derRead b).2.2.2 = 0 then derAll (derRead b).2.2.1 else [])
termination_by b.length
decreasing_by exact derRead_shorter b h

theorem derAll_nil : derAll [] = [] := by rw [derAll]; simp
theorem derAll_cons (b : List Int) (h : b ≠ []) : derAll b = ((((derRead b).1, (derRead b).2.1), (derRead b).2.2.2)) :: (if (derRead b).2.2.2 = 0 then derAll (derRead b).2.2.1 else []) := by
  rw [derAll, if_neg h]
  by_cases h1 : (derRead b).2.2.2 = 0 <;> simp [h1]

theorem derAll_short (n : Nat) : ∀ b : List Int, b.length ≤ n → n ≤ 4096 → (derAll b).length ≤ n := by
  induction n with
  | zero => intro b h _; rw [List.eq_nil_of_length_eq_zero (by omega : b.length = 0), derAll_nil]; simp
  | succ n ih =>
    intro b h hn
    by_cases hb : b = []
    · rw [hb, derAll_nil]; simp
    · rw [derAll_cons b hb]
      split
      · rename_i he
        have := derRead_shorter b he
        have := ih _ (by omega : (derRead b).2.2.1.length ≤ n) (by omega)
        simp; omega
      · simp
theorem derAll_len (b : List Int) : (derAll b).length ≤ 4096 := by
  by_cases h : b.length ≤ 4096
  · exact derAll_short _ b h (Nat.le_refl _)
  · rw [derAll_cons b (by rintro rfl; simp at h)]
    have : (derRead b).2.2.2 = 3 := by unfold derRead; rw [if_pos (by omega)]
    rw [this]; simp

/-- What a round is told of the piece. -/
def PieceAt (Z : Nat → Prop) (bb : Nat) (W : World) (v e : Value) (x : (Int × List Int) × Int) : Prop :=
  ∃ A n c, v = .agg #[.int .u8 x.1.1, .slice A n c] ∧ e = .int .i64 x.2 ∧ SR (fun k => ¬ Z k ∧ k ≠ bb) W tU8 A n c x.1.2

/-- A loop over der.All: what is asked of its body. Z: the blocks that it may write. -/
structure AllBody (l bb : Nat) (r0 : Loop) (xs : List ((Int × List Int) × Int)) (I Ix : List ((Int × List Int) × Int) → World → (Nat → Prop) → Prop) : Prop where
  ready : r0.state = .ready
  params : r0.params.size = 2
  rec_ : ∀ pre W Z, I pre W Z → W.heap[l]? = some (.loop r0)
  stay : ∀ pre W W' Z, OnS (· ≠ bb) W W' → I pre W Z → I pre W' Z
  round : ∀ pre x W Z v e, pre ++ [x] <+: xs → I pre W Z → (∀ k, Z k → k < W.heap.size) → PieceAt Z bb W v e x →
    RoundIn Fence.wide 0 Try.prog l r0.fn ((r0.params.zip #[v, e]).foldl (fun tmps (t, a) => tmps.setIfInBounds t a) r0.tmps) r0.assign r0.body W fun y W' =>
      ((y = .returned (.bool true) ∧ ∃ Z', I (pre ++ [x]) W' Z' ∧ OnS (fun k => ¬ Z k) W W' ∧ ∀ k, Z' k → k < W'.heap.size ∧ (Z k ∨ W.heap.size ≤ k)) ∨
       (y = .returned (.bool false) ∧ ∃ Z', Ix (pre ++ [x]) W' Z' ∧ OnS (fun k => ¬ Z k) W W'))

def muAll (bb : Nat) : Value → World → Nat
  | .int _ e, W => if e = 0 then (match W.cell? ⟨bb, 0, none⟩ with | some (.slice _ n _) => n + 1 | _ => 0) else 0
  | _, _ => 0

set_option maxHeartbeats 1000000 in
theorem all1 {S : Nat → Prop} {A : Option Addr} {n c : Nat} {b : List Int} {l bb : Nat} {r0 : Loop} {I Ix : List ((Int × List Int) × Int) → World → (Nat → Prop) → Prop} (HA : AllBody l bb r0 (derAll b) I Ix) (w : World) (Z : Nat → Prop)
    (H : SR S w tU8 A n c b) (hB : Bx w bb 25 [.slice A n c]) (hS : ∀ k, k < w.heap.size → S k → ¬ Z k ∧ k ≠ bb) (hZb : ¬ Z bb) (hZ : ∀ k, Z k → k < w.heap.size) (h0 : I [] w Z) :
    CallsIn Fence.wide 0 Try.prog 26 #[.func (.yield l) #[] #[], .pointer (some ⟨bb, 0, none⟩)] w fun e W' => (∃ v, e = .returned v) ∧ ((∃ Z', I (derAll b) W' Z') ∨ (∃ pre Z', pre <+: derAll b ∧ Ix pre W' Z')) := by
  refine callsIn_of_wp Try.func26 rfl trivial ?_ rfl
  simp only [Try.ntmps26, List.size_toArray, List.length_cons, List.length_nil, Nat.reduceAdd, Nat.reduceSub, Array.replicate_succ, Array.replicate_zero, List.push_toArray, List.append_toArray, List.nil_append, List.cons_append]
  repeat' gi_step
  gi_loopw [3] (fun e wr => ∃ (pre : List ((Int × List Int) × Int)) (rest : List Int) (e0 : Int) (A : Option Addr) (n c : Nat) (Z : Nat → Prop), e = .int .i64 e0 ∧ derAll b = pre ++ (if e0 = 0 then derAll rest else []) ∧
      Bx wr bb 25 [.slice A n c] ∧ SR (fun k => ¬ Z k ∧ k ≠ bb) wr tU8 A n c rest ∧ ¬ Z bb ∧ (∀ k, Z k → k < wr.heap.size) ∧ I pre wr Z) (muAll bb)
  case atStart => exact ⟨[], b, 0, A, n, c, Z, rfl, by simp, hB, H.weaken (by decide) hS, hZb, hZ, h0⟩
  case round =>
    obtain ⟨pre, rest, e0, A, n, c, Z, rfl, hall, hB, H, hZb, hZ, hI⟩ := hrel
    have hc0 := hB.cell 0
    have hf0 := hB.frozen 0
    simp only [List.getElem?_cons_zero] at hc0
    have hl := H.len
    have hs := H.small
    by_cases hcont : 0 < n ∧ e0 = 0
    · obtain ⟨hn, rfl⟩ := hcont
      have hca : ∀ o, (wr.alloc o).cell? ⟨bb, 0, none⟩ = some (.slice A n c) := fun o => (OnS.alloc wr o).cell hc0 trivial
      repeat' gi_step
      generalize hw1 : World.alloc wr _ = w1
      have hT : Bx w1 wr.heap.size 28 [.int .u8 0, .slice none 0 0] := hw1 ▸ Bx.new wr [.int .u8 0, .slice none 0 0] 28
      have hE : Ext wr w1 := hw1 ▸ OnS.alloc wr _
      clear hw1 hca
      have hbl := hB.lt
      refine ⟨trivial, rfl, (callsIn_wide.2 (read_any w1 (H.mono (OnS.ext hE)))).mono ?_⟩
      rintro _ w2 ⟨v, rfl, hE2, A1, n1, c1, A2, n2, c2, rfl, hR1, hR2⟩
      have hT2 := hT.to hE2 trivial
      have hB2 := (hB.to hE trivial).to hE2 trivial
      have hz1 := hT.lt
      have hne : ¬ bb = wr.heap.size := by omega
      have hne' : ¬ wr.heap.size = bb := by omega
      have g1 := hT2.cell 0
      have g2 := hT2.cell 1
      have g3 := hT2.frozen 0
      have g4 := hT2.frozen 1
      have g5 := hB2.cell 0
      have g6 := hB2.frozen 0
      simp only [List.getElem?_cons_zero, List.getElem?_cons_succ] at g1 g2 g5
      obtain ⟨r, hrd⟩ : ∃ r, r = derRead rest := ⟨_, rfl⟩
      rw [← hrd] at hR1 hR2 ⊢
      have HX : Hid (derAll rest = (((r.1, r.2.1), r.2.2.2)) :: (if r.2.2.2 = 0 then derAll r.2.2.1 else [])) := by
        rw [hrd]; exact derAll_cons rest (by intro e; rw [e] at hl; simp at hl; omega)
      have HM : Hid (r.2.2.2 = 0 → r.2.2.1.length < rest.length) := by rw [hrd]; exact derRead_shorter rest
      have HALL := Lib.hid hall
      clear hrd hall
      obtain ⟨tg, bd, rs, er⟩ := r
      simp only at hR1 hR2 ⊢
      repeat' gi_step
      generalize hw3 : World.setCell (World.setCell (World.setCell w2 _ _) _ _) _ _ = w3
      have hO3 : OnS (fun k => k ≠ wr.heap.size ∧ k ≠ bb) w2 w3 := hw3 ▸ (((OnS.setCell w2 ⟨wr.heap.size, 0, none⟩ _).weaken (fun k _ hk => hk.1)).trans ((OnS.setCell _ ⟨wr.heap.size, 1, none⟩ _).weaken (fun k _ hk => hk.1))).trans ((OnS.setCell _ ⟨bb, 0, none⟩ _).weaken (fun k _ hk => hk.2))
      have hB3 : Bx w3 bb 25 [.slice A2 n2 c2] := by
        rw [← hw3]
        have := ((hB2.to (OnS.setCell w2 ⟨wr.heap.size, 0, none⟩ (.int .u8 tg)) hne).to (OnS.setCell _ ⟨wr.heap.size, 1, none⟩ (.slice A1 n1 c1)) hne).set 0 (.slice A2 n2 c2)
        exact this
      clear hw3
      have hO : OnS (· ≠ bb) wr w3 := OnS.since (OnS.ext (hE.trans hE2)) hO3 (fun i hi h => ⟨by omega, h⟩)
      have hI3 := HA.stay _ _ _ _ hO hI
      have hR13 := (hR1.weaken (S' := fun k => w1.heap.size ≤ k ∧ k ≠ wr.heap.size ∧ k ≠ bb) (by decide) (fun k _ hk => by omega)).mono (hO3.weaken (fun k _ hk => hk.2))
      have hR23 := (hR2.weaken (S' := fun k => w1.heap.size ≤ k ∧ k ≠ wr.heap.size ∧ k ≠ bb) (by decide) (fun k _ hk => by omega)).mono (hO3.weaken (fun k _ hk => hk.2))
      have hZn : ∀ k, w1.heap.size ≤ k → ¬ Z k := fun k hk hz => by have := hZ k hz; omega
      have hsz : wr.heap.size ≤ w3.heap.size := hO.size
      rw [run_yield (HA.rec_ _ _ _ hI3) (by rw [HA.params]; rfl)]
      refine ⟨by simp [Fence.wide], (HA.round pre ((tg, bd), er) w3 Z _ _ ⟨_, by rw [HALL.out, if_pos rfl, HX.out, List.append_assoc]; rfl⟩ hI3 (fun k hk => by have := hZ k hk; omega) ⟨A1, n1, c1, rfl, rfl, hR13.weaken (by decide) (fun k _ hk => ⟨hZn k hk.1, hk.2.2⟩)⟩).mono ?_⟩
      rintro y w4 (⟨rfl, Z', hI4, hO4, hZ4⟩ | ⟨rfl, Z', hI4, hO4⟩)
      · have hB4 := hB3.to hO4 hZb
        have hbl4 := hB3.lt
        have hR24 := (hR23.weaken (S' := fun k => w1.heap.size ≤ k ∧ k < w3.heap.size ∧ k ≠ bb) (by decide) (fun k h3 hk => ⟨hk.1, h3, hk.2.2⟩)).mono (hO4.weaken (fun k _ hk => hZn k hk.1))
        simp only
        repeat' gi_step
        go_roundw
        case rel =>
          refine ⟨pre ++ [((tg, bd), er)], rs, er, A2, n2, c2, Z', rfl, ?_, hB4, ?_, ?_, fun k hk => (hZ4 k hk).1, hI4⟩
          · rw [HALL.out, if_pos rfl, HX.out, List.append_assoc]; rfl
          · refine hR24.weaken (by decide) (fun k hk4 hk => ⟨fun hz => ?_, hk.2.2⟩)
            rcases (hZ4 k hz).2 with h | h
            · exact hZn k hk.1 h
            · omega
          · intro hz
            rcases (hZ4 bb hz).2 with h | h
            · exact hZb h
            · omega
        case measure =>
          have hm := HM.out
          have hx := hB4.cell 0
          have hl2 := hR24.len
          simp only [List.getElem?_cons_zero] at hx hm
          simp only [List.getD_eq_getElem?_getD, Array.getD_eq_getD_getElem?, List.getElem?_toArray, List.getElem?_cons_succ, List.getElem?_cons_zero, Option.getD_some, muAll, hx, hc0, if_pos]
          by_cases her : er = 0
          · have := hm her
            rw [if_pos her]
            omega
          · rw [if_neg her]
            omega
      · simp only
        repeat' gi_step
        refine bodyPost_ret (results_none rfl _ _ _) rfl ⟨⟨_, rfl⟩, .inr ⟨_, Z', ?_, hI4⟩⟩
        rw [HALL.out, if_pos rfl, HX.out]
        exact ⟨_, by rw [List.append_assoc]; rfl⟩
    · have hend : derAll b = pre := by
        rw [hall]
        by_cases he : e0 = 0
        · have hn : n = 0 := by
            rcases Nat.eq_zero_or_pos n with h | h
            · exact h
            · exact absurd ⟨h, he⟩ hcont
          rw [if_pos he, List.eq_nil_of_length_eq_zero (by omega : rest.length = 0), derAll_nil, List.append_nil]
        · rw [if_neg he, List.append_nil]
      have HE := Lib.hid hend
      clear hend hall
      by_cases hn : 0 < n
      · have he : (e0 == 0) = false := by
          rw [beq_eq_false_iff_ne]
          exact fun e => hcont ⟨hn, e⟩
        clear hcont
        repeat' gi_step
        go_end0
        exact ⟨⟨_, rfl⟩, .inl ⟨Z, HE.out ▸ hI⟩⟩
      · have hn' : n ≤ 0 := by omega
        clear hcont
        repeat' gi_step
        go_end0
        exact ⟨⟨_, rfl⟩, .inl ⟨Z, HE.out ▸ hI⟩⟩
#print axioms all1
end Go.Proofs.Ytikekdifipacmaa
