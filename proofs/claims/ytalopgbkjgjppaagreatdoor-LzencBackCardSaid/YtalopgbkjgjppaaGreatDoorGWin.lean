/- Part of a proof: Win, Win2, Pd, Sl0. -/
import Derived.Test.YtalopgbkjgjppaaGreatDoorGPk7
import Derived.Maps.AppendAt
import Derived.Laws.IdiomStrings
import Derived.Test.YtalopgbkjgjppaaGreatDoorReg
import Derived.Deep.DeepCutAuto
/- The walks of window's functions. -/
namespace Go.Proofs.YtalopgbkjgjppaaGreatDoor
open Go.RowKit Go.Cas

abbrev b8 (b : UInt8) : Value := .int .u8 (b.toNat : Int)

theorem Tryz.infoB : (Tryz.prog.info? 5).map (fun i => (i.zero, i.size, i.bytes)) = some (some (.int .u8 0), 1, 1) := by kernel_rfl

/-- A window: so many bytes at most; these were written. -/
structure Win (w : World) (p M : Nat) (bs : List UInt8) (q : Option Addr) (cap : Nat) : Prop where
  blk : Blk w p #[i6 M, .slice q bs.length cap] 169
  own : w.ownsRow 0 5 1 (.slice q bs.length cap) bs.length (bs.map b8)
  ne : Value.ownBlock (.slice q bs.length cap) ≠ some p

/-- The blocks of a window. -/
def winF (p : Nat) (q : Option Addr) : Nat → Prop := fun k => k = p ∨ q.map Addr.block = some k

theorem Win.keeps {S : Nat → Prop} {w w' : World} {p M cap : Nat} {bs : List UInt8} {q : Option Addr} (h : Win w p M bs q cap) (k : Keeps S w w') (hn : ∀ b, winF p q b → ¬ S b) : Win w' p M bs q cap :=
  ⟨h.blk.keeps k (hn _ (.inl rfl)), ownsRow_keeps h.own k fun b hb => hn b (.inr (by rw [← hb, ownBlock_slice])), h.ne⟩

theorem Win.nil {w : World} {p M cap : Nat} {bs : List UInt8} (h : Win w p M bs none cap) : bs = [] := by
  rcases h.own.2 with ⟨h1, h2⟩ | ⟨g, c, cur, h1, _⟩
  · exact List.eq_nil_of_length_eq_zero h2
  · simp at h1

theorem Win.some {w : World} {p M cap : Nat} {bs : List UInt8} {a : Addr} (h : Win w p M bs (some a) cap) : a = ⟨a.block, 0, none⟩ := by
  rcases h.own.2 with ⟨h1, h2⟩ | ⟨g, c, cur, h1, _⟩
  · simp at h1
  · simp at h1; rw [h1.1]

theorem b8_get (bs : List UInt8) (j : Nat) (hj : j < bs.length) : (bs.map b8)[j]? = some (b8 bs[j]) := by simp [hj]

set_option maxHeartbeats 1000000 in
theorem wnew_any (m : Int) (w : World) :
    Calls Tryz.prog 59 #[i6 m] w fun z w' => z = .returned (.pointer (some ⟨w.heap.size, 0, none⟩)) ∧ Same w w' ∧ Win w' w.heap.size m.toNat [] none 0 := by
  have em : ((m.toNat : Nat) : Int) = max m 0 := by omega
  by_cases hm : 0 ≤ m
  all_goals
    go_enter Tryz.func59, Tryz.ntmps59
    go_wp2
    go_ret
    refine ⟨rfl, (Keeps.refl _ _).alloc _, ?_, World.ownsRow_nil _ _ _ _, by simp [Value.ownBlock]⟩
    rw [em]
    first | rw [Int.max_eq_left hm] | rw [Int.max_eq_right (by omega)]
    exact Blk.new _ _ _

set_option maxHeartbeats 1000000 in
theorem wlen_any (p M cap : Nat) (bs : List UInt8) (q : Option Addr) (w : World) (h : Win w p M bs q cap) :
    Calls Tryz.prog 65 #[.pointer (some ⟨p, 0, none⟩)] w fun z w' => z = .returned (i6 bs.length) ∧ w = w' := by
  have hc := h.blk.cell 1
  simp only [List.getElem?_toArray, List.getElem?_cons_succ, List.getElem?_cons_zero] at hc
  go_enter Tryz.func65, Tryz.ntmps65
  go_wp2
  go_ret
  exact ⟨rfl, rfl⟩

set_option maxHeartbeats 1000000 in
theorem wtext_any (p M cap : Nat) (bs : List UInt8) (q : Option Addr) (w : World) (h : Win w p M bs q cap) :
    Calls Tryz.prog 71 #[.pointer (some ⟨p, 0, none⟩)] w fun z w' => z = .returned (.string ⟨bs.toArray⟩) ∧ w = w' := by
  have hc := h.blk.cell 1
  simp only [List.getElem?_toArray, List.getElem?_cons_succ, List.getElem?_cons_zero] at hc
  have hcv : (convert 53 9 (.slice q bs.length cap)).run Tryz.prog w = .ok (.string ⟨bs.toArray⟩) w := by
    cases q with
    | none =>
      obtain rfl := h.nil
      exact run_convert_bytes_nil w 53 5 Tryz.underlying53 Tryz.underlying5 _ _ 9 Tryz.underlying9
    | some a =>
      have ea := h.some
      refine run_convert_bytes_back w 53 9 5 a cap bs Tryz.underlying53 Tryz.underlying5 Tryz.underlying9 fun j hj => ?_
      have hown := h.own
      rw [ea] at hown ⊢
      exact hown.cells rfl j _ (b8_get bs j hj)
  go_enter Tryz.func71, Tryz.ntmps71
  go_wp2
  go_ret
  exact ⟨rfl, rfl⟩

theorem win_step {w W w1 : World} {p M cap c1 : Nat} {bs : List UInt8} {x : UInt8} {q q1 : Option Addr} (h : Win w p M bs q cap)
    (hown : w1.ownsRow 0 5 1 (.slice q1 (bs.length + 1) c1) (bs.length + 1) (bs.map b8 ++ [b8 x])) (hw : Same w W) (hk : Keeps (sblk q) W w1) (hat : ∀ k, sblk q1 k → sblk q k ∨ k = W.heap.size) :
    w1.cell? ⟨p, 1, none⟩ = some (.slice q bs.length cap) ∧ w1.frozen? ⟨p, 1, none⟩ = false ∧
    Hid (Win (w1.setCell ⟨p, 1, none⟩ (.slice q1 (bs.length + 1) c1)) p M (bs ++ [x]) q1 c1 ∧ Keeps (winF p q) w (w1.setCell ⟨p, 1, none⟩ (.slice q1 (bs.length + 1) c1)) ∧ (∀ k, winF p q1 k → winF p q k ∨ w.heap.size ≤ k)) := by
  have hp : ¬ sblk q p := fun e => h.ne (by rw [ownBlock_slice]; exact e)
  have hb1 : Blk w1 p #[i6 M, .slice q bs.length cap] 169 := (h.blk.keeps hw (fun h => h)).keeps hk hp
  have hpl : p < w.heap.size := h.blk.lt
  have hne : Value.ownBlock (.slice q1 (bs.length + 1) c1) ≠ some p := by
    rw [ownBlock_slice]
    intro e
    rcases hat p e with e | e
    · exact hp e
    · have := hw.size; omega
  refine ⟨by simpa using hb1.cell 1, hb1.frozen 1, hid ⟨⟨?_, ?_, ?_⟩, ?_, ?_⟩⟩
  · have := hb1.set 1 (.slice q1 (bs.length + 1) c1)
    simpa using this
  · have := ownsRow_keeps (S := fun k => k = p) hown (Keeps.setCell (Keeps.refl (fun k => k = p) w1) (p := ⟨p, 1, none⟩) (fun _ => rfl) (.slice q1 (bs.length + 1) c1)) (fun b hb e => hne (e ▸ hb))
    simpa using this
  · simpa using hne
  · refine Keeps.setCell ?_ (fun _ => .inl rfl) _
    refine ((Keeps.of_same hw).trans' (hk.mono (S' := winF p q) fun b _ hb => .inr hb) fun _ _ h => h)
  · rintro k (rfl | hk')
    · exact .inl (.inl rfl)
    · rcases hat k hk' with e | e
      · exact .inl (.inr e)
      · exact .inr (by have := hw.size; omega)

theorem b8_one (x : UInt8) : ∀ u ∈ [b8 x], u.oneCell' = true := by intro u hu; simp at hu; subst hu; rfl

set_option maxHeartbeats 1000000 in
theorem wput_yes (p M cap : Nat) (bs : List UInt8) (q : Option Addr) (x : UInt8) (w : World) (h : Win w p M bs q cap) (hl : bs.length < M) (hB : bs.length < 100000000000) :
    Calls Tryz.prog 90 #[.pointer (some ⟨p, 0, none⟩), b8 x] w fun z w' => z = .returned (.bool true) ∧
      ∃ q' cap', Win w' p M (bs ++ [x]) q' cap' ∧ Keeps (winF p q) w w' ∧ (∀ k, winF p q' k → winF p q k ∨ w.heap.size ≤ k) := by
  have hc0 := h.blk.cell 0
  have hc := h.blk.cell 1
  have hd : decide (M ≤ bs.length) = false := by simp; omega
  have H1 := hid (show bs.length + 1 ≤ maxLen by unfold maxLen; omega)
  have H2 := hid (show (bs.length + 1) * 1 ≤ 140737488355328 by omega)
  clear hB
  obtain ⟨i0, HI⟩ := info_hid Tryz.infoB
  simp only [List.getElem?_toArray, List.getElem?_cons_succ, List.getElem?_cons_zero] at hc hc0
  go_enter Tryz.func90, Tryz.ntmps90
  go_wp2
  go_quiet (fail)
  have hW : Win (w.drewN nq) p M bs q cap := h.keeps (S := fun _ => False) ((Keeps.refl _ _).drewN _) (fun _ _ h => h)
  go_wp2_with ((at_builtin; refine wpList_push _ rfl _ _ 53 rfl 5 i0 (.int .u8 0) 1 1 Tryz.underlying53 HI rfl (by decide) _ _ _ _ rfl (hW.own.alloc _) ⟨w.heap.size, 0, none⟩ 1 1 [b8 x] rfl rfl (cell_one_new _ _ _) (b8_one x) H1 H2 ?_; intro q1 c1 w1 hown1 hk1 hat1 _; obtain ⟨hx1, hx2, HX⟩ := win_step h hown1 (((Keeps.refl (fun _ => False) w).drewN nq).alloc (.cells #[b8 x] 5)) hk1 hat1; clear hown1 hk1 hat1))
  go_ret
  exact ⟨rfl, q1, c1, HX.out⟩
end Go.Proofs.YtalopgbkjgjppaaGreatDoor

/- The walk of window.Copy. -/
namespace Go.Proofs.YtalopgbkjgjppaaGreatDoor
open Go.RowKit Go.Cas

/-- A text, and n bytes copied behind it from so far back, going round. -/
def copyL (bs : List UInt8) (d : Nat) : Nat → List UInt8
  | 0 => bs
  | n + 1 => copyL bs d n ++ [(copyL bs d n)[(copyL bs d n).length - d]?.getD 0]

theorem copyL_length (bs : List UInt8) (d n : Nat) : (copyL bs d n).length = bs.length + n := by
  induction n with
  | zero => rfl
  | succ n ih => simp [copyL, ih]; omega

set_option maxHeartbeats 2000000 in
set_option maxRecDepth 100000 in
theorem wcopy_yes (p M cap : Nat) (bs : List UInt8) (q : Option Addr) (d n : Nat) (w : World) (h : Win w p M bs q cap) (hM : M ≤ 9223372036854775807) (hB : bs.length + n < 100000000000)
    (h1 : 1 ≤ d) (h2 : d ≤ bs.length) (h4 : bs.length + n ≤ M) :
    Calls Tryz.prog 91 #[.pointer (some ⟨p, 0, none⟩), i6 d, i6 n] w fun z w' => z = .returned (.bool true) ∧
      ∃ q' cap', Win w' p M (copyL bs d n) q' cap' ∧ Keeps (winF p q) w w' ∧ (∀ k, winF p q' k → winF p q k ∨ w.heap.size ≤ k) := by
  have hc0 := h.blk.cell 0
  have hc := h.blk.cell 1
  simp only [List.getElem?_toArray, List.getElem?_cons_succ, List.getElem?_cons_zero] at hc hc0
  have g1 : decide ((d : Int) < 1) = false := by simp; omega
  have g2 : decide (bs.length < d) = false := by simp; omega
  have g3 : decide ((n : Int) < 0) = false := by simp
  have g4 : decide ((M : Int) - bs.length < n) = false := by simp; omega
  have HB := hid hB
  obtain ⟨i0, HI⟩ := info_hid Tryz.infoB
  clear hB
  go_enter Tryz.func91, Tryz.ntmps91
  go_wp2
  go_quiet (fail)
  go_wp2
  go_loopw [41] (fun i wr => ∃ k : Nat, k ≤ n ∧ i = i6 k ∧ ∃ q1 c1, Win wr p M (copyL bs d k) q1 c1 ∧ Keeps (winF p q) w wr ∧ (∀ k, winF p q1 k → winF p q k ∨ w.heap.size ≤ k)) (fun i _ => n - (intOf i).toNat)
  case atStart => exact ⟨0, Nat.zero_le _, rfl, q, cap, h.keeps (S := fun _ => False) ((Keeps.refl _ _).drewN _) (fun _ _ h => h), (Keeps.refl _ _).drewN _, fun _ h => .inl h⟩
  case round =>
    obtain ⟨k, hk, rfl, q1, c1, hw1, hk1, hg1⟩ := hrel
    by_cases hlt : k < n
    · have hlen := copyL_length bs d k
      have HS := hid (show copyL bs d (k + 1) = copyL bs d k ++ [(copyL bs d k)[(copyL bs d k).length - d]?.getD 0] from rfl)
      generalize copyL bs d k = cs at *
      have hld : cs.length - d < cs.length := by omega
      have hd2 : d ≤ cs.length := by omega
      have H1 := hid (show cs.length + 1 ≤ maxLen by have := HB.out; unfold maxLen; omega)
      have H2 := hid (show (cs.length + 1) * 1 ≤ 140737488355328 by have := HB.out; omega)
      have hbyte : cs[cs.length - d]?.getD 0 = cs[cs.length - d] := by simp [hld]
      rw [hbyte] at HS
      generalize cs[cs.length - d] = x at HS hbyte
      cases q1 with
      | none => have := hw1.nil; subst this; simp at hld
      | some a =>
        have ea := hw1.some
        generalize a.block = g at ea
        subst ea
        have r0 := hw1.blk.cell 1
        simp only [List.getElem?_toArray, List.getElem?_cons_succ, List.getElem?_cons_zero] at r0
        have r1 : wr.cell? ⟨g, cs.length - d, none⟩ = some (b8 x) := by
          rw [hw1.own.cellAt (cs.length - d) (by omega), b8_get cs _ hld, ← hbyte]; simp [hld]
        have s1 : IntKind.i64.wrap ((cs.length : Int) - (d : Int)) = (cs.length : Int) - (d : Int) := IntWalk.i64_in _ (by have := HB.out; omega)
        have s2 : (0 : Int) ≤ (cs.length : Int) - (d : Int) := by omega
        have s3 : (cs.length : Int) - (d : Int) < (cs.length : Int) := by omega
        have s4 : ((cs.length : Int) - (d : Int)).toNat = cs.length - d := by omega
        have hp := hw1.blk.lt
        have hgl : g < wr.heap.size := (hw1.own.lt g rfl).2
        clear hlen hbyte hc hc0 g1 g2 g3 g4
        go_wp2_with fail
        refine wp_region_S (S := (fun W => W.cell? ⟨p, 1, none⟩ = some (.slice (some ⟨g, 0, none⟩) cs.length c1) ∧ W.cell? ⟨g, cs.length - d, none⟩ = some (b8 x))) 20 (by kernel_rfl) (by (try dsimp only); go_simp) (fun hHeld => ?_)
        refine wpAnyS_take (i := 0) (oi := ⟨some 43, _, _, _, _, _⟩) (v := ?v0) rfl (by kernel_rfl) (by kernel_rfl) (by kernel_rfl) (by kernel_rfl) (fun _ _ _ h => h) (Or.inl ⟨by rfl, ?h0⟩) (by assumption) ?r0
        case h0 => intro w hSw; (try dsimp only at hSw); go_simp; (try with_reducible rfl)
        try simp only [Act.put, List.setIfInBounds_toArray, List.set_cons_zero, List.set_cons_succ]
        refine wpAnyS_take (i := 1) (oi := ⟨some 44, _, _, _, _, _⟩) (v := ?v1) rfl (by kernel_rfl) (by kernel_rfl) (by kernel_rfl) (by kernel_rfl) (fun _ _ _ h => h) (Or.inl ⟨by rfl, ?h1⟩) (by assumption) ?r1
        case h1 => intro w hSw; (try dsimp only at hSw); go_simp; (try with_reducible rfl)
        try simp only [Act.put, List.setIfInBounds_toArray, List.set_cons_zero, List.set_cons_succ]
        refine wpAnyS_take (i := 2) (oi := ⟨some 45, _, _, _, _, _⟩) (v := ?v2) rfl (by kernel_rfl) (by kernel_rfl) (by kernel_rfl) (by kernel_rfl) (fun _ _ _ h => h) (Or.inl ⟨by rfl, ?h2⟩) (by assumption) ?r2
        case h2 => intro w hSw; (try dsimp only at hSw); go_simp; (try with_reducible rfl)
        try simp only [Act.put, List.setIfInBounds_toArray, List.set_cons_zero, List.set_cons_succ]
        refine wpAnyS_take (i := 3) (oi := ⟨some 46, _, _, _, _, _⟩) (v := ?v3) rfl (by kernel_rfl) (by kernel_rfl) (by kernel_rfl) (by kernel_rfl) (fun _ _ _ h => h) (Or.inl ⟨by rfl, ?h3⟩) (by assumption) ?r3
        case h3 => intro w hSw; (try dsimp only at hSw); go_simp; (try with_reducible rfl)
        try simp only [Act.put, List.setIfInBounds_toArray, List.set_cons_zero, List.set_cons_succ]
        refine wpAnyS_take (i := 4) (oi := ⟨some 47, _, _, _, _, _⟩) (v := ?v4) rfl (by kernel_rfl) (by kernel_rfl) (by kernel_rfl) (by kernel_rfl) (fun _ _ _ h => h) (Or.inl ⟨by rfl, ?h4⟩) (by assumption) ?r4
        case h4 => intro w hSw; (try dsimp only at hSw); go_simp; (try with_reducible rfl)
        try simp only [Act.put, List.setIfInBounds_toArray, List.set_cons_zero, List.set_cons_succ]
        refine wpAnyS_take (i := 5) (oi := ⟨some 48, _, _, _, _, _⟩) (v := ?v5) rfl (by kernel_rfl) (by kernel_rfl) (by kernel_rfl) (by kernel_rfl) (fun _ _ _ h => h) (Or.inl ⟨by rfl, ?h5⟩) (by assumption) ?r5
        case h5 => intro w hSw; (try dsimp only at hSw); go_simp; (try with_reducible rfl)
        try simp only [Act.put, List.setIfInBounds_toArray, List.set_cons_zero, List.set_cons_succ]
        refine wpAnyS_take (i := 6) (oi := ⟨some 49, _, _, _, _, _⟩) (v := ?v6) rfl (by kernel_rfl) (by kernel_rfl) (by kernel_rfl) (by kernel_rfl) (fun _ _ _ h => h) (Or.inl ⟨by rfl, ?h6⟩) (by assumption) ?r6
        case h6 => intro w hSw; (try dsimp only at hSw); go_simp; (try with_reducible rfl)
        try simp only [Act.put, List.setIfInBounds_toArray, List.set_cons_zero, List.set_cons_succ]
        refine wpAnyS_take (i := 7) (oi := ⟨some 50, _, _, _, _, _⟩) (v := ?v7) rfl (by kernel_rfl) (by kernel_rfl) (by kernel_rfl) (by kernel_rfl) (fun _ _ _ h => h) (Or.inl ⟨by rfl, ?h7⟩) (by assumption) ?r7
        case h7 => intro w hSw; (try dsimp only at hSw); go_simp; (try with_reducible rfl)
        try simp only [Act.put, List.setIfInBounds_toArray, List.set_cons_zero, List.set_cons_succ]
        refine wpAnyS_take (i := 8) (oi := ⟨some 51, _, _, _, _, _⟩) (v := ?v8) rfl (by kernel_rfl) (by kernel_rfl) (by kernel_rfl) (by kernel_rfl) (fun _ _ _ h => h) (Or.inl ⟨by rfl, ?h8⟩) (by assumption) ?r8
        case h8 => intro w hSw; (try dsimp only at hSw); go_simp; (try with_reducible rfl)
        try simp only [Act.put, List.setIfInBounds_toArray, List.set_cons_zero, List.set_cons_succ]
        refine wpAnyS_take (i := 9) (oi := ⟨some 52, _, _, _, _, _⟩) (v := ?v9) rfl (by kernel_rfl) (by kernel_rfl) (by kernel_rfl) (by kernel_rfl) (fun _ _ _ h => h) (Or.inl ⟨by rfl, ?h9⟩) (by assumption) ?r9
        case h9 => intro w hSw; (try dsimp only at hSw); go_simp; (try with_reducible rfl)
        try simp only [Act.put, List.setIfInBounds_toArray, List.set_cons_zero, List.set_cons_succ]
        refine wpAnyS_take (i := 10) (oi := ⟨some 53, _, _, _, _, _⟩) (v := ?v10) rfl (by kernel_rfl) (by kernel_rfl) (by kernel_rfl) (by kernel_rfl) (fun _ _ _ h => h) (Or.inl ⟨by rfl, ?h10⟩) (by assumption) ?r10
        case h10 => intro w hSw; (try dsimp only at hSw); go_simp; (try with_reducible rfl)
        try simp only [Act.put, List.setIfInBounds_toArray, List.set_cons_zero, List.set_cons_succ]
        refine wpAnyS_take (i := 11) (oi := ⟨some 54, _, _, _, _, _⟩) (v := ?v11) rfl (by kernel_rfl) (by kernel_rfl) (by kernel_rfl) (by kernel_rfl) (fun _ _ _ h => h) (Or.inl ⟨by rfl, ?h11⟩) (by assumption) ?r11
        case h11 => intro w hSw; (try dsimp only at hSw); go_simp; (try with_reducible rfl)
        try simp only [Act.put, List.setIfInBounds_toArray, List.set_cons_zero, List.set_cons_succ]
        refine wpAnyS_take (i := 12) (oi := ⟨some 55, _, _, _, _, _⟩) (v := ?v12) rfl (by kernel_rfl) (by kernel_rfl) (by kernel_rfl) (by kernel_rfl) (fun _ _ _ h => h) (Or.inl ⟨by rfl, ?h12⟩) (by assumption) ?r12
        case h12 => intro w hSw; (try dsimp only at hSw); go_simp; (try with_reducible rfl)
        try simp only [Act.put, List.setIfInBounds_toArray, List.set_cons_zero, List.set_cons_succ]
        refine wpAnyS_take (i := 13) (oi := ⟨some 56, _, _, _, _, _⟩) (v := ?v13) rfl (by kernel_rfl) (by kernel_rfl) (by kernel_rfl) (by kernel_rfl) (fun _ _ _ h => h) (Or.inl ⟨by rfl, ?h13⟩) (by assumption) ?r13
        case h13 => intro w hSw; (try dsimp only at hSw); go_simp; (try with_reducible rfl)
        try simp only [Act.put, List.setIfInBounds_toArray, List.set_cons_zero, List.set_cons_succ]
        refine wpAnyS_take (i := 14) (oi := ⟨some 57, _, _, _, _, _⟩) (v := ?v14) rfl (by kernel_rfl) (by kernel_rfl) (by kernel_rfl) (by kernel_rfl) (fun _ _ _ h => h) (Or.inl ⟨by rfl, ?h14⟩) (by assumption) ?r14
        case h14 => intro w hSw; (try dsimp only at hSw); go_simp; (try with_reducible rfl)
        try simp only [Act.put, List.setIfInBounds_toArray, List.set_cons_zero, List.set_cons_succ]
        refine wpAnyS_take (i := 15) (oi := ⟨some 58, _, _, _, _, _⟩) (v := ?v15) rfl (by kernel_rfl) (by kernel_rfl) (by kernel_rfl) (by kernel_rfl) (fun _ _ _ h => h) (Or.inl ⟨by rfl, ?h15⟩) (by assumption) ?r15
        case h15 => intro w hSw; (try dsimp only at hSw); go_simp; (try with_reducible rfl)
        try simp only [Act.put, List.setIfInBounds_toArray, List.set_cons_zero, List.set_cons_succ]
        refine wpAnyS_take (i := 16) (oi := ⟨some 59, _, _, _, _, _⟩) (v := ?v16) rfl (by kernel_rfl) (by kernel_rfl) (by kernel_rfl) (by kernel_rfl) (fun _ _ _ h => h) (Or.inl ⟨by rfl, ?h16⟩) (by assumption) ?r16
        case h16 => intro w hSw; (try dsimp only at hSw); go_simp; (try with_reducible rfl)
        try simp only [Act.put, List.setIfInBounds_toArray, List.set_cons_zero, List.set_cons_succ]
        refine wpAnyS_take (i := 17) (oi := ⟨some 60, _, _, _, _, _⟩) (v := ?v17) rfl (by kernel_rfl) (by kernel_rfl) (by kernel_rfl) (by kernel_rfl) (fun _ _ _ h => h) (Or.inl ⟨by rfl, ?h17⟩) (by assumption) ?r17
        case h17 => intro w hSw; (try dsimp only at hSw); go_simp; (try with_reducible rfl)
        try simp only [Act.put, List.setIfInBounds_toArray, List.set_cons_zero, List.set_cons_succ]
        refine wpAnyS_one (i := 18) (o := ⟨some 61, _, _, _, _, _⟩) rfl (by kernel_rfl) (fun K hK => ?_)
        go_simp
        refine hK.out _ _ (fun _ => by (try dsimp only); go_simp) ?_
        clear hK K
        try simp only [Act.put, List.setIfInBounds_toArray, List.set_cons_zero, List.set_cons_succ]
        refine wpAnyS_one (i := 19) (o := ⟨some 62, _, _, _, _, _⟩) rfl (by kernel_rfl) (fun K hK => ?_)
        refine wp_push _ _ _ 53 rfl 5 i0 (.int .u8 0) 1 1 Tryz.underlying53 HI rfl (by decide) _ _ _ _ rfl (hw1.own.alloc _) ⟨wr.heap.size, 0, none⟩ 1 1 [b8 x] rfl rfl (cell_one_new _ _ _) (b8_one x) H1 H2 ?_; intro q2 c2 w2 hown2 hk2 hat2 hold2; obtain ⟨hx1, hx2, HX⟩ := win_step hw1 hown2 (by repeat (first | exact Keeps.refl _ _ | refine Keeps.drew ?_ | refine Keeps.drewN ?_ _ | refine Keeps.alloc ?_ _ | refine Keeps.setCell ?_ (by simp; try omega) _ | exact Hid.out (by assumption) | refine Keeps.trans ?_ (by assumption))) hk2 hat2; have hb2 := hold2 g (cs.length - d) rfl (by omega); clear hown2 hk2 hat2 hold2
        refine hK.out _ _ (fun _ => by (try dsimp only); go_simp) ?_
        clear hK K
        try simp only [Act.put, List.setIfInBounds_toArray, List.set_cons_zero, List.set_cons_succ]
        refine wpAnyS_one (i := 20) (o := ⟨some 63, _, _, _, _, _⟩) rfl (by kernel_rfl) (fun K hK => ?_)
        go_simp
        refine hK.out _ _ (fun h => absurd h (by decide)) ?_
        clear hK K
        try simp only [Act.put, List.setIfInBounds_toArray, List.set_cons_zero, List.set_cons_succ]
        refine wpAnyS_one (i := 21) (o := ⟨some 64, _, _, _, _, _⟩) rfl (by kernel_rfl) (fun K hK => ?_)
        go_simp
        refine hK.out _ _ (fun h => absurd h (by decide)) ?_
        clear hK K
        try simp only [Act.put, List.setIfInBounds_toArray, List.set_cons_zero, List.set_cons_succ]
        refine wpAnyS_one (i := 22) (o := ⟨none, _, _, _, _, _⟩) rfl (by kernel_rfl) (fun K hK => ?_)
        go_simp
        refine hK.out _ _ (fun h => absurd h (by decide)) ?_
        clear hK K
        try simp only [Act.put, List.setIfInBounds_toArray, List.set_cons_zero, List.set_cons_succ]
        refine wpAnyS_done (by kernel_rfl) ?_ _
        go_wp2
        go_roundw
        case rel => exact ⟨k + 1, by omega, by go_num, q2, c2, by rw [HS.out]; exact HX.out.1, Keeps.chain hk1 hg1 HX.out.2.1 HX.out.2.2⟩
        case measure => simp [intOf]; omega
    · obtain rfl : k = n := by omega
      go_wp2
      go_ret
      exact ⟨rfl, q1, c1, hw1, hk1, hg1⟩
end Go.Proofs.YtalopgbkjgjppaaGreatDoor

/- Packets as data. -/
namespace Go.Proofs.YtalopgbkjgjppaaGreatDoor
open Go.RowKit Go.Cas

/-- A packet as data. -/
structure Pk where
  k : Int
  d : Int
  l : Int
  y : UInt8
  deriving DecidableEq

def Pk.cells (p : Pk) : List Value := [i6 p.k, i6 p.d, i6 p.l, b8 p.y]
def cellsP (l : List Pk) : List Value := l.flatMap Pk.cells

theorem cellsP_get : ∀ (l : List Pk) (k j : Nat) (p : Pk), l[k]? = some p → j < 4 → (cellsP l)[k * 4 + j]? = p.cells[j]?
  | [], k, j, p, h, _ => by simp at h
  | q :: l, 0, j, p, h, hj => by
    simp at h; subst h
    show (q.cells ++ cellsP l)[0 * 4 + j]? = _
    rw [List.getElem?_append_left (by simp [Pk.cells]; omega)]
    simp
  | q :: l, k + 1, j, p, h, hj => by
    have ih := cellsP_get l k j p (by simpa using h) hj
    show (q.cells ++ cellsP l)[(k + 1) * 4 + j]? = _
    rw [List.getElem?_append_right (by simp [Pk.cells]; omega), ← ih]
    congr 1
    simp [Pk.cells]; omega

/-- A slice that holds packets. -/
structure Pks (w : World) (q : Option Addr) (cap : Nat) (l : List Pk) : Prop where
  own : w.ownsRow 0 39 4 (.slice q l.length cap) l.length (cellsP l)

theorem Pks.keeps {S : Nat → Prop} {w w' : World} {q : Option Addr} {cap : Nat} {l : List Pk} (h : Pks w q cap l) (k : Keeps S w w') (hn : ∀ b, sblk q b → ¬ S b) : Pks w' q cap l :=
  ⟨ownsRow_keeps h.own k fun b hb => hn b (by rw [ownBlock_slice] at hb; exact hb)⟩

theorem Pks.lt {w : World} {q : Option Addr} {cap : Nat} {l : List Pk} (h : Pks w q cap l) : ∀ b, sblk q b → b < w.heap.size := fun b hb => (h.own.lt b (by rw [ownBlock_slice]; exact hb)).2

theorem Pks.ex {w : World} {q : Option Addr} {cap : Nat} {l : List Pk} (h : Pks w q cap l) (hl : 0 < l.length) : ∃ g, q = some ⟨g, 0, none⟩ := by
  rcases h.own.2 with ⟨h1, h2⟩ | ⟨g, c, cur, h1, _⟩
  · omega
  · simp at h1; exact ⟨g, h1.1⟩

theorem Pks.at {w : World} {g cap : Nat} {l : List Pk} (h : Pks w (some ⟨g, 0, none⟩) cap l) (k : Nat) (p : Pk) (hk : l[k]? = some p) :
    w.cell? ⟨g, k * 4, none⟩ = some (i6 p.k) ∧ w.cell? ⟨g, k * 4 + 1, none⟩ = some (i6 p.d) ∧ w.cell? ⟨g, k * 4 + 2, none⟩ = some (i6 p.l) ∧ w.cell? ⟨g, k * 4 + 3, none⟩ = some (b8 p.y) := by
  have hkl : k < l.length := (List.getElem?_eq_some_iff.1 hk).1
  have e := fun j hj => (h.own.cellAt (k * 4 + j) (by omega)).trans (cellsP_get l k j p hk hj)
  exact ⟨e 0 (by omega), e 1 (by omega), e 2 (by omega), e 3 (by omega)⟩

/-- The text that packets tell, from here on, or its error; at most M bytes. -/
def applyGo (M : Nat) : List Pk → List UInt8 → Int × Int × Int × Int → List UInt8 × Int
  | [], bs, _ => (bs, 0)
  | p :: ps, bs, r =>
    if p.k = 1 ∧ p.d = 0 ∧ p.l = 0 then
      if bs.length < M then applyGo M ps (bs ++ [p.y]) r else ([], 11)
    else if (fitsL p.k p.d p.l p.y.toNat bs.length r.1 r.2.1 r.2.2.1 r.2.2.2).2.2.2 then
      if 1 ≤ (fitsL p.k p.d p.l p.y.toNat bs.length r.1 r.2.1 r.2.2.1 r.2.2.2).1 ∧ (fitsL p.k p.d p.l p.y.toNat bs.length r.1 r.2.1 r.2.2.1 r.2.2.2).1 ≤ bs.length ∧
        0 ≤ (fitsL p.k p.d p.l p.y.toNat bs.length r.1 r.2.1 r.2.2.1 r.2.2.2).2.1 ∧ (fitsL p.k p.d p.l p.y.toNat bs.length r.1 r.2.1 r.2.2.1 r.2.2.2).2.1 ≤ (M : Int) - bs.length then
        applyGo M ps (copyL bs (fitsL p.k p.d p.l p.y.toNat bs.length r.1 r.2.1 r.2.2.1 r.2.2.2).1.toNat (fitsL p.k p.d p.l p.y.toNat bs.length r.1 r.2.1 r.2.2.1 r.2.2.2).2.1.toNat) (fitsL p.k p.d p.l p.y.toNat bs.length r.1 r.2.1 r.2.2.1 r.2.2.2).2.2.1
      else ([], 11)
    else ([], 6)

def applyL (l : List Pk) (most : Int) : List UInt8 × Int := applyGo most.toNat l [] (1, 1, 1, 1)

abbrev rc4 (r : Int × Int × Int × Int) : Array Value := #[i6 r.1, i6 r.2.1, i6 r.2.2.1, i6 r.2.2.2]

theorem fits_bound (k d l y h a b c e : Int) (hn : ¬ (k = 1 ∧ d = 0 ∧ l = 0)) : (fitsL k d l y h a b c e).2.2.2 = true → 1 ≤ (fitsL k d l y h a b c e).2.1 ∧ (fitsL k d l y h a b c e).2.1 ≤ 273 := by
  unfold fitsL
  rw [if_neg hn]
  split
  · rename_i hc
    intro _
    revert hc
    unfold copiesL longB
    split
    · simp; omega
    · split
      · simp; omega
      · split <;> simp
  · simp
end Go.Proofs.YtalopgbkjgjppaaGreatDoor

/- A slice that owns its row, of whatever element; the step of an append. -/
namespace Go.Proofs.YtalopgbkjgjppaaGreatDoor
open Go.RowKit Go.Cas

structure Sl (T : TypeId) (sz : Nat) (w : World) (q : Option Addr) (cap n : Nat) (xs : List Value) : Prop where
  own : w.ownsRow 0 T sz (.slice q n cap) n xs

theorem Sl.keeps {T : TypeId} {sz : Nat} {S : Nat → Prop} {w w' : World} {q : Option Addr} {cap n : Nat} {xs : List Value} (h : Sl T sz w q cap n xs) (k : Keeps S w w') (hn : ∀ b, sblk q b → ¬ S b) : Sl T sz w' q cap n xs :=
  ⟨ownsRow_keeps h.own k fun b hb => hn b (by rw [ownBlock_slice] at hb; exact hb)⟩

theorem Sl.same {T : TypeId} {sz : Nat} {w w' : World} {q : Option Addr} {cap n : Nat} {xs : List Value} (h : Sl T sz w q cap n xs) (k : Same w w') : Sl T sz w' q cap n xs := h.keeps k fun _ _ h => h

theorem Sl.lt {T : TypeId} {sz : Nat} {w : World} {q : Option Addr} {cap n : Nat} {xs : List Value} (h : Sl T sz w q cap n xs) : ∀ b, sblk q b → b < w.heap.size := fun b hb => (h.own.lt b (by rw [ownBlock_slice]; exact hb)).2

theorem Sl.nil (T : TypeId) (sz : Nat) (w : World) : Sl T sz w none 0 0 [] := ⟨World.ownsRow_nil _ _ _ _⟩

theorem Sl.ex {T : TypeId} {sz : Nat} {w : World} {q : Option Addr} {cap n : Nat} {xs : List Value} (h : Sl T sz w q cap n xs) (hl : 0 < n) : ∃ g, q = some ⟨g, 0, none⟩ := by
  rcases h.own.2 with ⟨h1, h2⟩ | ⟨g, c, cur, h1, _⟩
  · omega
  · simp at h1; exact ⟨g, h1.1⟩

theorem Sl.cell {T : TypeId} {sz : Nat} {w : World} {g cap n : Nat} {xs : List Value} (h : Sl T sz w (some ⟨g, 0, none⟩) cap n xs) (j : Nat) (hj : j < n * sz) : w.cell? ⟨g, j, none⟩ = xs[j]? := h.own.cellAt j hj

/-- What an append leaves: the new slice; it lies in the old block or in a new one; all else stays. -/
theorem Sl.push {T : TypeId} {sz : Nat} {w W w6 : World} {n m c2 : Nat} {q1 q2 : Option Addr} {xs news : List Value} {X : Obj}
    (hsm : Same w W) (hge : ∀ b, sblk q1 b → w.heap.size ≤ b)
    (hown : w6.ownsRow 0 T sz (.slice q2 (n + m) c2) (n + m) (xs ++ news)) (hk : Keeps (sblk q1) (W.alloc X) w6) (hat : ∀ k, sblk q2 k → sblk q1 k ∨ k = (W.alloc X).heap.size) :
    Sl T sz w6 q2 c2 (n + m) (xs ++ news) ∧ (∀ b, sblk q2 b → w.heap.size ≤ b) ∧ Same w w6 ∧ Keeps (sblk q1) W w6 ∧ (∀ b, b < W.heap.size → ¬ sblk q1 b → ¬ sblk q2 b) := by
  have l3 := hsm.size
  have l4 : (W.alloc X).heap.size = W.heap.size + 1 := by simp
  refine ⟨⟨hown⟩, ?_, ?_, ?_, ?_⟩
  · intro b e; rcases hat _ e with e | e
    · exact hge b e
    · omega
  · exact (hsm.alloc X).trans' (S' := sblk q1) hk fun b hb hs => by have := hge b hs; omega
  · exact ((Keeps.refl (sblk q1) W).alloc X).trans hk
  · intro b hb hn e; rcases hat _ e with e | e
    · exact hn e
    · omega

theorem cell_one_at {w : World} {n : Nat} {x : Value} {t : TypeId} (h : n = w.heap.size) : ∀ j u, [x][j]? = some u → (w.alloc (.cells #[x] t)).cell? ((⟨n, 0, none⟩ : Addr).add j) = some u := by
  subst h; exact cell_one_new _ _ _
end Go.Proofs.YtalopgbkjgjppaaGreatDoor
