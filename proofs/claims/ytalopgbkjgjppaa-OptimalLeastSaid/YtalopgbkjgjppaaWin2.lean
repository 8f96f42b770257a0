/- The walk of window.Copy. -/
import Derived.Test.YtalopgbkjgjppaaWin
import Derived.Test.YtalopgbkjgjppaaReg
namespace Go.Proofs.Ytalopgbkjgjppaa
open Go.RowKit Go.Cas

/-- A text, and n bytes copied behind it from so far back, going round. -/
def copyL (bs : List UInt8) (d : Nat) : Nat → List UInt8
  | 0 => bs
  | n + 1 => copyL bs d n ++ [(copyL bs d n)[(copyL bs d n).length - d]?.getD 0]

theorem copyL_length (bs : List UInt8) (d n : Nat) : (copyL bs d n).length = bs.length + n := by
  induction n with
  | zero => rfl
  | succ n ih => simp [copyL, ih]; omega

set_option maxHeartbeats 1000000 in
theorem wcopy_no (p M cap : Nat) (bs : List UInt8) (q : Option Addr) (d n : Int) (w : World) (h : Win w p M bs q cap) (hM : M ≤ 9223372036854775807) (hl : bs.length ≤ M)
    (hn : ¬ (1 ≤ d ∧ d ≤ bs.length ∧ 0 ≤ n ∧ n ≤ (M : Int) - bs.length)) :
    Calls Try.prog 41 #[.pointer (some ⟨p, 0, none⟩), i6 d, i6 n] w fun z w' => z = .returned (.bool false) ∧ Same w w' := by
  have hc0 := h.blk.cell 0
  have hc := h.blk.cell 1
  simp only [List.getElem?_toArray, List.getElem?_cons_succ, List.getElem?_cons_zero] at hc hc0
  have hcase : decide (d < 1) = true ∨ (decide (d < 1) = false ∧ decide ((bs.length : Int) < d) = true) ∨ (decide (d < 1) = false ∧ decide ((bs.length : Int) < d) = false ∧ decide (n < 0) = true) ∨
      (decide (d < 1) = false ∧ decide ((bs.length : Int) < d) = false ∧ decide (n < 0) = false ∧ decide ((M : Int) - bs.length < n) = true) := by simp; omega
  clear hn
  rcases hcase with h1 | ⟨h1, h2⟩ | ⟨h1, h2, h3⟩ | ⟨h1, h2, h3, h4⟩
  all_goals
    go_enter Try.func41, Try.ntmps41
    go_wp2
    go_quiet (fail)
    go_wp2
    go_ret
    exact ⟨rfl, (Keeps.refl _ _).drewN _⟩

set_option maxHeartbeats 2000000 in
set_option maxRecDepth 100000 in
theorem wcopy_yes (p M cap : Nat) (bs : List UInt8) (q : Option Addr) (d n : Nat) (w : World) (h : Win w p M bs q cap) (hM : M ≤ 9223372036854775807) (hB : bs.length + n < 100000000000)
    (h1 : 1 ≤ d) (h2 : d ≤ bs.length) (h4 : bs.length + n ≤ M) :
    Calls Try.prog 41 #[.pointer (some ⟨p, 0, none⟩), i6 d, i6 n] w fun z w' => z = .returned (.bool true) ∧
      ∃ q' cap', Win w' p M (copyL bs d n) q' cap' ∧ Keeps (winF p q) w w' ∧ (∀ k, winF p q' k → winF p q k ∨ w.heap.size ≤ k) := by
  have hc0 := h.blk.cell 0
  have hc := h.blk.cell 1
  simp only [List.getElem?_toArray, List.getElem?_cons_succ, List.getElem?_cons_zero] at hc hc0
  have g1 : decide ((d : Int) < 1) = false := by simp; omega
  have g2 : decide (bs.length < d) = false := by simp; omega
  have g3 : decide ((n : Int) < 0) = false := by simp
  have g4 : decide ((M : Int) - bs.length < n) = false := by simp; omega
  have HB := hid hB
  obtain ⟨i0, HI⟩ := info_hid Try.infoB
  clear hB
  go_enter Try.func41, Try.ntmps41
  go_wp2
  go_quiet (fail)
  go_wp2
  go_loopw [41] (fun i wr => ∃ k : Nat, k ≤ n ∧ i = i6 k ∧ ∃ q1 c1, Win wr p M (copyL bs d k) q1 c1 ∧ Keeps (winF p q) w wr ∧ (∀ k, winF p q1 k → winF p q k ∨ w.heap.size ≤ k)) (fun i _ => n - (intOf i).toNat)
  case atStart => exact ⟨0, Nat.zero_le _, rfl, q, cap, h.keeps (S := fun _ => False) ((Keeps.refl _ _).drewN _) (fun _ _ h => h), (Keeps.refl _ _).drewN _, fun _ h => .inl h⟩
  case round =>
    obtain ⟨k, hk, rfl, q1, c1, hw1, hk1, hg1⟩ := hrel
    by_cases hlt : k < n
    · have hlen := copyL_length bs d k
      have HS := hid (show copyL bs d (k + 1) = copyL bs d k ++ [(copyL bs d k)[(copyL bs d k).length - d]?.getD 0] from rfl)
      generalize copyL bs d k = cs at *
      have hld : cs.length - d < cs.length := by omega
      have hd2 : d ≤ cs.length := by omega
      have H1 := hid (show cs.length + 1 ≤ maxLen by have := HB.out; unfold maxLen; omega)
      have H2 := hid (show (cs.length + 1) * 1 ≤ 140737488355328 by have := HB.out; omega)
      have hbyte : cs[cs.length - d]?.getD 0 = cs[cs.length - d] := by simp [hld]
      rw [hbyte] at HS
      generalize cs[cs.length - d] = x at HS hbyte
      cases q1 with
      | none => have := hw1.nil; subst this; simp at hld
      | some a =>
        have ea := hw1.some
        generalize a.block = g at ea
        subst ea
        have r0 := hw1.blk.cell 1
        simp only [List.getElem?_toArray, List.getElem?_cons_succ, List.getElem?_cons_zero] at r0
        have r1 : wr.cell? ⟨g, cs.length - d, none⟩ = some (b8 x) := by
          rw [hw1.own.cellAt (cs.length - d) (by omega), b8_get cs _ hld, ← hbyte]; simp [hld]
        have s1 : IntKind.i64.wrap ((cs.length : Int) - (d : Int)) = (cs.length : Int) - (d : Int) := IntWalk.i64_in _ (by have := HB.out; omega)
        have s2 : (0 : Int) ≤ (cs.length : Int) - (d : Int) := by omega
        have s3 : (cs.length : Int) - (d : Int) < (cs.length : Int) := by omega
        have s4 : ((cs.length : Int) - (d : Int)).toNat = cs.length - d := by omega
        have hp := hw1.blk.lt
        have hgl : g < wr.heap.size := (hw1.own.lt g rfl).2
        clear hlen hbyte hc hc0 g1 g2 g3 g4
        go_wp2_with fail
        refine wp_region_S (S := (fun W => W.cell? ⟨p, 1, none⟩ = some (.slice (some ⟨g, 0, none⟩) cs.length c1) ∧ W.cell? ⟨g, cs.length - d, none⟩ = some (b8 x))) 20 (by kernel_rfl) (by (try dsimp only); go_simp) (fun hHeld => ?_)
        refine wpAnyS_take (i := 0) (oi := ⟨some 43, _, _, _, _, _⟩) (v := ?v0) rfl (by kernel_rfl) (by kernel_rfl) (by kernel_rfl) (by kernel_rfl) (fun _ _ _ h => h) (Or.inl ⟨by rfl, ?h0⟩) (by assumption) ?r0
        case h0 => intro w hSw; (try dsimp only at hSw); go_simp; (try with_reducible rfl)
        try simp only [Act.put, List.setIfInBounds_toArray, List.set_cons_zero, List.set_cons_succ]
        refine wpAnyS_take (i := 1) (oi := ⟨some 44, _, _, _, _, _⟩) (v := ?v1) rfl (by kernel_rfl) (by kernel_rfl) (by kernel_rfl) (by kernel_rfl) (fun _ _ _ h => h) (Or.inl ⟨by rfl, ?h1⟩) (by assumption) ?r1
        case h1 => intro w hSw; (try dsimp only at hSw); go_simp; (try with_reducible rfl)
        try simp only [Act.put, List.setIfInBounds_toArray, List.set_cons_zero, List.set_cons_succ]
        refine wpAnyS_take (i := 2) (oi := ⟨some 45, _, _, _, _, _⟩) (v := ?v2) rfl (by kernel_rfl) (by kernel_rfl) (by kernel_rfl) (by kernel_rfl) (fun _ _ _ h => h) (Or.inl ⟨by rfl, ?h2⟩) (by assumption) ?r2
        case h2 => intro w hSw; (try dsimp only at hSw); go_simp; (try with_reducible rfl)
        try simp only [Act.put, List.setIfInBounds_toArray, List.set_cons_zero, List.set_cons_succ]
        refine wpAnyS_take (i := 3) (oi := ⟨some 46, _, _, _, _, _⟩) (v := ?v3) rfl (by kernel_rfl) (by kernel_rfl) (by kernel_rfl) (by kernel_rfl) (fun _ _ _ h => h) (Or.inl ⟨by rfl, ?h3⟩) (by assumption) ?r3
        case h3 => intro w hSw; (try dsimp only at hSw); go_simp; (try with_reducible rfl)
        try simp only [Act.put, List.setIfInBounds_toArray, List.set_cons_zero, List.set_cons_succ]
        refine wpAnyS_take (i := 4) (oi := ⟨some 47, _, _, _, _, _⟩) (v := ?v4) rfl (by kernel_rfl) (by kernel_rfl) (by kernel_rfl) (by kernel_rfl) (fun _ _ _ h => h) (Or.inl ⟨by rfl, ?h4⟩) (by assumption) ?r4
        case h4 => intro w hSw; (try dsimp only at hSw); go_simp; (try with_reducible rfl)
        try simp only [Act.put, List.setIfInBounds_toArray, List.set_cons_zero, List.set_cons_succ]
        refine wpAnyS_take (i := 5) (oi := ⟨some 48, _, _, _, _, _⟩) (v := ?v5) rfl (by kernel_rfl) (by kernel_rfl) (by kernel_rfl) (by kernel_rfl) (fun _ _ _ h => h) (Or.inl ⟨by rfl, ?h5⟩) (by assumption) ?r5
        case h5 => intro w hSw; (try dsimp only at hSw); go_simp; (try with_reducible rfl)
        try simp only [Act.put, List.setIfInBounds_toArray, List.set_cons_zero, List.set_cons_succ]
        refine wpAnyS_take (i := 6) (oi := ⟨some 49, _, _, _, _, _⟩) (v := ?v6) rfl (by kernel_rfl) (by kernel_rfl) (by kernel_rfl) (by kernel_rfl) (fun _ _ _ h => h) (Or.inl ⟨by rfl, ?h6⟩) (by assumption) ?r6
        case h6 => intro w hSw; (try dsimp only at hSw); go_simp; (try with_reducible rfl)
        try simp only [Act.put, List.setIfInBounds_toArray, List.set_cons_zero, List.set_cons_succ]
        refine wpAnyS_take (i := 7) (oi := ⟨some 50, _, _, _, _, _⟩) (v := ?v7) rfl (by kernel_rfl) (by kernel_rfl) (by kernel_rfl) (by kernel_rfl) (fun _ _ _ h => h) (Or.inl ⟨by rfl, ?h7⟩) (by assumption) ?r7
        case h7 => intro w hSw; (try dsimp only at hSw); go_simp; (try with_reducible rfl)
        try simp only [Act.put, List.setIfInBounds_toArray, List.set_cons_zero, List.set_cons_succ]
        refine wpAnyS_take (i := 8) (oi := ⟨some 51, _, _, _, _, _⟩) (v := ?v8) rfl (by kernel_rfl) (by kernel_rfl) (by kernel_rfl) (by kernel_rfl) (fun _ _ _ h => h) (Or.inl ⟨by rfl, ?h8⟩) (by assumption) ?r8
        case h8 => intro w hSw; (try dsimp only at hSw); go_simp; (try with_reducible rfl)
        try simp only [Act.put, List.setIfInBounds_toArray, List.set_cons_zero, List.set_cons_succ]
        refine wpAnyS_take (i := 9) (oi := ⟨some 52, _, _, _, _, _⟩) (v := ?v9) rfl (by kernel_rfl) (by kernel_rfl) (by kernel_rfl) (by kernel_rfl) (fun _ _ _ h => h) (Or.inl ⟨by rfl, ?h9⟩) (by assumption) ?r9
        case h9 => intro w hSw; (try dsimp only at hSw); go_simp; (try with_reducible rfl)
        try simp only [Act.put, List.setIfInBounds_toArray, List.set_cons_zero, List.set_cons_succ]
        refine wpAnyS_take (i := 10) (oi := ⟨some 53, _, _, _, _, _⟩) (v := ?v10) rfl (by kernel_rfl) (by kernel_rfl) (by kernel_rfl) (by kernel_rfl) (fun _ _ _ h => h) (Or.inl ⟨by rfl, ?h10⟩) (by assumption) ?r10
        case h10 => intro w hSw; (try dsimp only at hSw); go_simp; (try with_reducible rfl)
        try simp only [Act.put, List.setIfInBounds_toArray, List.set_cons_zero, List.set_cons_succ]
        refine wpAnyS_take (i := 11) (oi := ⟨some 54, _, _, _, _, _⟩) (v := ?v11) rfl (by kernel_rfl) (by kernel_rfl) (by kernel_rfl) (by kernel_rfl) (fun _ _ _ h => h) (Or.inl ⟨by rfl, ?h11⟩) (by assumption) ?r11
        case h11 => intro w hSw; (try dsimp only at hSw); go_simp; (try with_reducible rfl)
        try simp only [Act.put, List.setIfInBounds_toArray, List.set_cons_zero, List.set_cons_succ]
        refine wpAnyS_take (i := 12) (oi := ⟨some 55, _, _, _, _, _⟩) (v := ?v12) rfl (by kernel_rfl) (by kernel_rfl) (by kernel_rfl) (by kernel_rfl) (fun _ _ _ h => h) (Or.inl ⟨by rfl, ?h12⟩) (by assumption) ?r12
        case h12 => intro w hSw; (try dsimp only at hSw); go_simp; (try with_reducible rfl)
        try simp only [Act.put, List.setIfInBounds_toArray, List.set_cons_zero, List.set_cons_succ]
        refine wpAnyS_take (i := 13) (oi := ⟨some 56, _, _, _, _, _⟩) (v := ?v13) rfl (by kernel_rfl) (by kernel_rfl) (by kernel_rfl) (by kernel_rfl) (fun _ _ _ h => h) (Or.inl ⟨by rfl, ?h13⟩) (by assumption) ?r13
        case h13 => intro w hSw; (try dsimp only at hSw); go_simp; (try with_reducible rfl)
        try simp only [Act.put, List.setIfInBounds_toArray, List.set_cons_zero, List.set_cons_succ]
        refine wpAnyS_take (i := 14) (oi := ⟨some 57, _, _, _, _, _⟩) (v := ?v14) rfl (by kernel_rfl) (by kernel_rfl) (by kernel_rfl) (by kernel_rfl) (fun _ _ _ h => h) (Or.inl ⟨by rfl, ?h14⟩) (by assumption) ?r14
        case h14 => intro w hSw; (try dsimp only at hSw); go_simp; (try with_reducible rfl)
        try simp only [Act.put, List.setIfInBounds_toArray, List.set_cons_zero, List.set_cons_succ]
        refine wpAnyS_take (i := 15) (oi := ⟨some 58, _, _, _, _, _⟩) (v := ?v15) rfl (by kernel_rfl) (by kernel_rfl) (by kernel_rfl) (by kernel_rfl) (fun _ _ _ h => h) (Or.inl ⟨by rfl, ?h15⟩) (by assumption) ?r15
        case h15 => intro w hSw; (try dsimp only at hSw); go_simp; (try with_reducible rfl)
        try simp only [Act.put, List.setIfInBounds_toArray, List.set_cons_zero, List.set_cons_succ]
        refine wpAnyS_take (i := 16) (oi := ⟨some 59, _, _, _, _, _⟩) (v := ?v16) rfl (by kernel_rfl) (by kernel_rfl) (by kernel_rfl) (by kernel_rfl) (fun _ _ _ h => h) (Or.inl ⟨by rfl, ?h16⟩) (by assumption) ?r16
        case h16 => intro w hSw; (try dsimp only at hSw); go_simp; (try with_reducible rfl)
        try simp only [Act.put, List.setIfInBounds_toArray, List.set_cons_zero, List.set_cons_succ]
        refine wpAnyS_take (i := 17) (oi := ⟨some 60, _, _, _, _, _⟩) (v := ?v17) rfl (by kernel_rfl) (by kernel_rfl) (by kernel_rfl) (by kernel_rfl) (fun _ _ _ h => h) (Or.inl ⟨by rfl, ?h17⟩) (by assumption) ?r17
        case h17 => intro w hSw; (try dsimp only at hSw); go_simp; (try with_reducible rfl)
        try simp only [Act.put, List.setIfInBounds_toArray, List.set_cons_zero, List.set_cons_succ]
        refine wpAnyS_one (i := 18) (o := ⟨some 61, _, _, _, _, _⟩) rfl (by kernel_rfl) (fun K hK => ?_)
        go_simp
        refine hK.out _ _ (fun _ => by (try dsimp only); go_simp) ?_
        clear hK K
        try simp only [Act.put, List.setIfInBounds_toArray, List.set_cons_zero, List.set_cons_succ]
        refine wpAnyS_one (i := 19) (o := ⟨some 62, _, _, _, _, _⟩) rfl (by kernel_rfl) (fun K hK => ?_)
        refine wp_push _ _ _ 83 rfl 5 i0 (.int .u8 0) 1 1 Try.underlying83 HI rfl (by decide) _ _ _ _ rfl (hw1.own.alloc _) ⟨wr.heap.size, 0, none⟩ 1 1 [b8 x] rfl rfl (cell_one_new _ _ _) (b8_one x) H1 H2 ?_; intro q2 c2 w2 hown2 hk2 hat2 hold2; obtain ⟨hx1, hx2, HX⟩ := win_step hw1 hown2 (by repeat (first | exact Keeps.refl _ _ | refine Keeps.drew ?_ | refine Keeps.drewN ?_ _ | refine Keeps.alloc ?_ _ | refine Keeps.setCell ?_ (by simp; try omega) _ | exact Hid.out (by assumption) | refine Keeps.trans ?_ (by assumption))) hk2 hat2; have hb2 := hold2 g (cs.length - d) rfl (by omega); clear hown2 hk2 hat2 hold2
        refine hK.out _ _ (fun _ => by (try dsimp only); go_simp) ?_
        clear hK K
        try simp only [Act.put, List.setIfInBounds_toArray, List.set_cons_zero, List.set_cons_succ]
        refine wpAnyS_one (i := 20) (o := ⟨some 63, _, _, _, _, _⟩) rfl (by kernel_rfl) (fun K hK => ?_)
        go_simp
        refine hK.out _ _ (fun h => absurd h (by decide)) ?_
        clear hK K
        try simp only [Act.put, List.setIfInBounds_toArray, List.set_cons_zero, List.set_cons_succ]
        refine wpAnyS_one (i := 21) (o := ⟨some 64, _, _, _, _, _⟩) rfl (by kernel_rfl) (fun K hK => ?_)
        go_simp
        refine hK.out _ _ (fun h => absurd h (by decide)) ?_
        clear hK K
        try simp only [Act.put, List.setIfInBounds_toArray, List.set_cons_zero, List.set_cons_succ]
        refine wpAnyS_one (i := 22) (o := ⟨none, _, _, _, _, _⟩) rfl (by kernel_rfl) (fun K hK => ?_)
        go_simp
        refine hK.out _ _ (fun h => absurd h (by decide)) ?_
        clear hK K
        try simp only [Act.put, List.setIfInBounds_toArray, List.set_cons_zero, List.set_cons_succ]
        refine wpAnyS_done (by kernel_rfl) ?_ _
        go_wp2
        go_roundw
        case rel => exact ⟨k + 1, by omega, by go_num, q2, c2, by rw [HS.out]; exact HX.out.1, Keeps.chain hk1 hg1 HX.out.2.1 HX.out.2.2⟩
        case measure => simp [intOf]; omega
    · obtain rfl : k = n := by omega
      go_wp2
      go_ret
      exact ⟨rfl, q1, c1, hw1, hk1, hg1⟩
end Go.Proofs.Ytalopgbkjgjppaa
