/- The walk of told: the program's packets, and the document's. -/
import Derived.Test.YtalopgbkjgjppaaSl
import Derived.Deep.Slices
namespace Go.Proofs.Ytalopgbkjgjppaa
open Go.RowKit Go.Cas

/-- Packets that lie in memory that came in. -/
def OutPks (w : World) (q : Option Addr) (l : List Pk) : Prop :=
  ∀ k p, l[k]? = some p → ∃ a, q = some a ∧ a.block < w.heap.size ∧ w.cell? (a.add (k * 4)) = some (i6 p.k) ∧ w.cell? (a.add (k * 4 + 1)) = some (i6 p.d) ∧ w.cell? (a.add (k * 4 + 2)) = some (i6 p.l) ∧ w.cell? (a.add (k * 4 + 3)) = some (b8 p.y)

theorem blk_news {w : World} {n : Nat} {x0 x1 x2 x3 : Value} {t : TypeId} (h : Blk w n #[x0, x1, x2, x3] t) : ∀ j u, [x0, x1, x2, x3][j]? = some u → w.cell? ((⟨n, 0, none⟩ : Addr).add j) = some u := by
  intro j u hj
  have e : (⟨n, 0, none⟩ : Addr).add j = ⟨n, j, none⟩ := by unfold Addr.add; split <;> simp_all
  rw [e]
  match j, hj with
  | 0, hj => exact (h.cell 0).trans hj
  | 1, hj => exact (h.cell 1).trans hj
  | 2, hj => exact (h.cell 2).trans hj
  | 3, hj => exact (h.cell 3).trans hj

theorem told_step {w wr W1 w6 W2 w7 : World} {T1 T2 : TypeId} {q1 q2 r1 r2 : Option Addr} {c2 d2 n : Nat} {xs ys nx ny : List Value}
    (hB : ∀ b, sblk r1 b → b < wr.heap.size) (hd : ∀ b, sblk q1 b → ¬ sblk r1 b) (hgA : ∀ b, sblk q1 b → w.heap.size ≤ b) (hgB : ∀ b, sblk r1 b → w.heap.size ≤ b) (hsm : Same w wr)
    (K1 : Same wr W1) (hown6 : w6.ownsRow 0 T1 4 (.slice q2 (n + 1) c2) (n + 1) (xs ++ nx)) (hk6 : Keeps (sblk q1) W1 w6) (hat6 : ∀ k, sblk q2 k → sblk q1 k ∨ k = W1.heap.size)
    (K2 : Same w6 W2) (hown7 : w7.ownsRow 0 T2 4 (.slice r2 (n + 1) d2) (n + 1) (ys ++ ny)) (hk7 : Keeps (sblk r1) W2 w7) (hat7 : ∀ k, sblk r2 k → sblk r1 k ∨ k = W2.heap.size) :
    Sl T1 4 w7 q2 c2 (n + 1) (xs ++ nx) ∧ Sl T2 4 w7 r2 d2 (n + 1) (ys ++ ny) ∧ (∀ b, sblk q2 b → ¬ sblk r2 b) ∧ (∀ b, sblk q2 b → w.heap.size ≤ b) ∧ (∀ b, sblk r2 b → w.heap.size ≤ b) ∧ Same w w7 := by
  have s0 := hsm.size
  have s1 := K1.size
  have s2 := hk6.size
  have s3 := K2.size
  have hq2 : ∀ b, sblk q2 b → ¬ sblk r1 b := by
    intro b e f
    rcases hat6 b e with e | e
    · exact hd b e f
    · have := hB b f; omega
  have hA6 : Sl T1 4 w6 q2 c2 (n + 1) (xs ++ nx) := ⟨hown6⟩
  refine ⟨(hA6.same K2).keeps hk7 hq2, ⟨hown7⟩, ?_, ?_, ?_, ?_⟩
  · intro b e f
    rcases hat7 b f with f | f
    · exact hq2 b e f
    · have := hA6.lt b e; omega
  · intro b e
    rcases hat6 b e with e | e
    · exact hgA b e
    · omega
  · intro b e
    rcases hat7 b e with e | e
    · exact hgB b e
    · omega
  · exact ((hsm.trans K1).trans' (S' := sblk q1) hk6 fun b hb e => by have := hgA b e; omega).trans K2 |>.trans' (S' := sblk r1) hk7 fun b hb e => by have := hgB b e; omega

theorem kpack {S : Nat → Prop} {wr W w6 : World} {q1 q2 : Option Addr} (hk : Keeps S W w6) (hat : ∀ k, sblk q2 k → sblk q1 k ∨ k = W.heap.size) (K : Same wr W) : ∃ W1, Keeps S W1 w6 ∧ (∀ k, sblk q2 k → sblk q1 k ∨ k = W1.heap.size) ∧ Same wr W1 := ⟨W, hk, hat, K⟩

theorem told_keep {S : Nat → Prop} {wr W1 w6 : World} (K : Same wr W1) (hk : Keeps S W1 w6) {p : Addr} {v : Value} (hp : p.block < wr.heap.size) (hS : ¬ S p.block) (h : wr.cell? p = some v) : w6.cell? p = some v :=
  (hk.cell (Nat.lt_of_lt_of_le hp K.size) hS).trans ((K.cell hp (fun h => h)).trans h)

set_option maxHeartbeats 4000000 in
set_option maxRecDepth 100000 in
theorem told_any (q : Option Addr) (n cap : Nat) (L : List Pk) (w : World) (hn : n ≤ maxLen) (hL : L.length = min n 60) (hl : OutPks w q L) :
    Calls Try.prog 13 #[.slice q n cap] w fun z w' => ∃ q1 c1 r1 d1, z = .returned (.tuple #[.slice q1 L.length c1, .slice r1 L.length d1]) ∧ Pks w' q1 c1 L ∧ RPks w' r1 d1 L ∧ (∀ b, sblk q1 b → w.heap.size ≤ b) ∧ (∀ b, sblk r1 b → w.heap.size ≤ b) ∧ Same w w' := by
  obtain ⟨i0, HI⟩ := info_hid Try.infoP
  obtain ⟨i1, HI1⟩ := info_hid Try.infoR
  replace hl := hid hl
  go_enter Try.func13, Try.ntmps13
  go_wp2_with fail
  go_loopw [4, 5, 6] (fun v u i wr => ∃ k : Nat, k ≤ L.length ∧ i = i6 k ∧ ∃ q1 c1 r1 d1, v = .slice q1 k c1 ∧ u = .slice r1 k d1 ∧ Sl 29 4 wr q1 c1 k (cellsP (L.take k)) ∧ Sl 28 4 wr r1 d1 k (cellsP (L.take k)) ∧
      (∀ b, sblk q1 b → ¬ sblk r1 b) ∧ (∀ b, sblk q1 b → w.heap.size ≤ b) ∧ (∀ b, sblk r1 b → w.heap.size ≤ b) ∧ Same w wr) (fun _ _ i _ => L.length - (intOf i).toNat)
  case atStart => exact ⟨0, Nat.zero_le _, rfl, none, 0, none, 0, rfl, rfl, Sl.nil _ _ _, Sl.nil _ _ _, by simp [sblk], by simp [sblk], by simp [sblk], Keeps.refl _ _⟩
  case round =>
    obtain ⟨k, hk, rfl, q1, c1, r1, d1, rfl, rfl, hA, hB, hdj, hgA, hgB, hsm⟩ := hrel
    by_cases hlt : k < L.length
    · have hget : L[k]? = some L[k] := by simp [hlt]
      have htk : L.take (k + 1) = L.take k ++ [L[k]] := by rw [List.take_add_one, hget]; rfl
      obtain ⟨a, rfl, hab, e0, e1, e2, e3⟩ := hl.out k _ hget
      generalize L[k] = p at *
      obtain ⟨pk_, pd, pl, py⟩ := p
      dsimp only at e0 e1 e2 e3
      have hab' : ∀ j, (a.add j).block < w.heap.size := fun j => by unfold Addr.add; split <;> exact hab
      rw [← hsm.cell (p := a.add (k * 4)) (hab' _) (fun h => h)] at e0
      rw [← hsm.cell (p := a.add (k * 4 + 1)) (hab' _) (fun h => h), ← Go.Deep.add_add] at e1
      rw [← hsm.cell (p := a.add (k * 4 + 2)) (hab' _) (fun h => h), ← Go.Deep.add_add] at e2
      rw [← hsm.cell (p := a.add (k * 4 + 3)) (hab' _) (fun h => h), ← Go.Deep.add_add] at e3
      replace e1 : wr.cell? ⟨(a.add (k * 4)).block, (a.add (k * 4)).off + 1, none⟩ = some (i6 pd) := e1
      replace e2 : wr.cell? ⟨(a.add (k * 4)).block, (a.add (k * 4)).off + 2, none⟩ = some (i6 pl) := e2
      replace e3 : wr.cell? ⟨(a.add (k * 4)).block, (a.add (k * 4)).off + 3, none⟩ = some (b8 py) := e3
      have hkn : k < n := by omega
      have hk60 : k < 60 := by omega
      have H1 := hid (show k + 1 ≤ maxLen by unfold maxLen; omega)
      have H2 := hid (show (k + 1) * 32 ≤ 140737488355328 by omega)
      clear hget
      go_upto_region 6 with fail
      have hAB : (a.add (k * 4)).block < wr.heap.size := Nat.lt_of_lt_of_le (hab' _) hsm.size
      have hABq : ¬ sblk q1 (a.add (k * 4)).block := fun e => by have := hgA _ e; have := hab' (k * 4); omega
      have hABr : ¬ sblk r1 (a.add (k * 4)).block := fun e => by have := hgB _ e; have := hab' (k * 4); omega
      have HTK := hid htk
      clear htk
      refine wp_region_held_drew (S := (fun W => W.cell? (a.add (k * 4)) = some (i6 pk_) ∧ W.cell? ⟨(a.add (k * 4)).block, (a.add (k * 4)).off + 1, none⟩ = some (i6 pd) ∧ W.cell? ⟨(a.add (k * 4)).block, (a.add (k * 4)).off + 2, none⟩ = some (i6 pl) ∧ W.cell? ⟨(a.add (k * 4)).block, (a.add (k * 4)).off + 3, none⟩ = some (b8 py))) (by kernel_rfl) (by (try dsimp only); go_simp) (fun hHeld => ?_)
      refine wpAnyH_take (i := 0) (oi := ⟨some 17, _, _, _, _, _⟩) (v := ?v0) rfl (by kernel_rfl) (by kernel_rfl) (by kernel_rfl) (fun _ _ _ h => h) (Or.inl ⟨by rfl, ?h0⟩) (by assumption) ?r0
      case h0 => intro w hSw; (try dsimp only at hSw); go_simp; (try with_reducible rfl)
      try simp only [Act.put, List.setIfInBounds_toArray, List.set_cons_zero, List.set_cons_succ]
      refine wpAnyH_take (i := 1) (oi := ⟨some 18, _, _, _, _, _⟩) (v := ?v1) rfl (by kernel_rfl) (by kernel_rfl) (by kernel_rfl) (fun _ _ _ h => h) (Or.inl ⟨by rfl, ?h1⟩) (by assumption) ?r1
      case h1 => intro w hSw; (try dsimp only at hSw); go_simp; (try with_reducible rfl)
      try simp only [Act.put, List.setIfInBounds_toArray, List.set_cons_zero, List.set_cons_succ]
      refine wpAnyH_take (i := 2) (oi := ⟨some 19, _, _, _, _, _⟩) (v := ?v2) rfl (by kernel_rfl) (by kernel_rfl) (by kernel_rfl) (fun _ _ _ h => h) (Or.inl ⟨by rfl, ?h2⟩) (by assumption) ?r2
      case h2 => intro w hSw; (try dsimp only at hSw); go_simp; (try with_reducible rfl)
      try simp only [Act.put, List.setIfInBounds_toArray, List.set_cons_zero, List.set_cons_succ]
      refine wpAnyH_take (i := 3) (oi := ⟨some 20, _, _, _, _, _⟩) (v := ?v3) rfl (by kernel_rfl) (by kernel_rfl) (by kernel_rfl) (fun _ _ _ h => h) (Or.inl ⟨by rfl, ?h3⟩) (by assumption) ?r3
      case h3 => intro w hSw; (try dsimp only at hSw); go_simp; (try with_reducible rfl)
      try simp only [Act.put, List.setIfInBounds_toArray, List.set_cons_zero, List.set_cons_succ]
      refine wpAnyH_take (i := 4) (oi := ⟨some 21, _, _, _, _, _⟩) (v := ?v4) rfl (by kernel_rfl) (by kernel_rfl) (by kernel_rfl) (fun _ _ _ h => h) (Or.inl ⟨by rfl, ?h4⟩) (by assumption) ?r4
      case h4 => intro w hSw; (try dsimp only at hSw); go_simp; (try with_reducible rfl)
      try simp only [Act.put, List.setIfInBounds_toArray, List.set_cons_zero, List.set_cons_succ]
      refine wpAnyH_take (i := 7) (oi := ⟨some 24, _, _, _, _, _⟩) (v := ?v7) rfl (by kernel_rfl) (by kernel_rfl) (by kernel_rfl) (fun _ _ _ h => h) (Or.inl ⟨by rfl, ?h7⟩) (by assumption) ?r7
      case h7 => intro w hSw; (try dsimp only at hSw); go_simp; (try with_reducible rfl)
      try simp only [Act.put, List.setIfInBounds_toArray, List.set_cons_zero, List.set_cons_succ]
      refine wpAnyH_take (i := 8) (oi := ⟨some 25, _, _, _, _, _⟩) (v := ?v8) rfl (by kernel_rfl) (by kernel_rfl) (by kernel_rfl) (fun _ _ _ h => h) (Or.inl ⟨by rfl, ?h8⟩) (by assumption) ?r8
      case h8 => intro w hSw; (try dsimp only at hSw); go_simp; (try with_reducible rfl)
      try simp only [Act.put, List.setIfInBounds_toArray, List.set_cons_zero, List.set_cons_succ]
      refine wpAnyH_take (i := 9) (oi := ⟨some 26, _, _, _, _, _⟩) (v := ?v9) rfl (by kernel_rfl) (by kernel_rfl) (by kernel_rfl) (fun _ _ _ h => h) (Or.inl ⟨by rfl, ?h9⟩) (by assumption) ?r9
      case h9 => intro w hSw; (try dsimp only at hSw); go_simp; (try with_reducible rfl)
      try simp only [Act.put, List.setIfInBounds_toArray, List.set_cons_zero, List.set_cons_succ]
      refine wpAnyH_take (i := 10) (oi := ⟨some 27, _, _, _, _, _⟩) (v := ?v10) rfl (by kernel_rfl) (by kernel_rfl) (by kernel_rfl) (fun _ _ _ h => h) (Or.inl ⟨by rfl, ?h10⟩) (by assumption) ?r10
      case h10 => intro w hSw; (try dsimp only at hSw); go_simp; (try with_reducible rfl)
      try simp only [Act.put, List.setIfInBounds_toArray, List.set_cons_zero, List.set_cons_succ]
      refine wpAnyH_take (i := 11) (oi := ⟨some 28, _, _, _, _, _⟩) (v := ?v11) rfl (by kernel_rfl) (by kernel_rfl) (by kernel_rfl) (fun _ _ _ h => h) (Or.inl ⟨by rfl, ?h11⟩) (by assumption) ?r11
      case h11 => intro w hSw; (try dsimp only at hSw); go_simp; (try with_reducible rfl)
      try simp only [Act.put, List.setIfInBounds_toArray, List.set_cons_zero, List.set_cons_succ]
      refine wpAnyH_ready (rs := [5, 12]) (by kernel_rfl) (by simp) ?_
      refine AllReadyH.cons (o := ⟨some 22, _, _, _, _, _⟩) rfl (fun K hK => ?_) (AllReadyH.cons (o := ⟨some 29, _, _, _, _, _⟩) rfl (fun K hK => ?_) AllReadyH.nil)
      · go_simp
        refine hK.out _ _ (by (try dsimp only); go_simp) (fun hHeld => ?_)
        clear hK K
        try simp only [Act.put, List.setIfInBounds_toArray, List.set_cons_zero, List.set_cons_succ]
        refine wpAnyH_ready (rs := [6, 12]) (by kernel_rfl) (by simp) ?_
        refine AllReadyH.cons (o := ⟨some 23, _, _, _, _, _⟩) rfl (fun K hK => ?_) (AllReadyH.cons (o := ⟨some 29, _, _, _, _, _⟩) rfl (fun K hK => ?_) AllReadyH.nil)
        · refine wp_push _ (.tmp 17) (.tmp 22) 23 rfl 29 i0 (.agg #[.int .i64 0, .int .i64 0, .int .i64 0, .int .u8 0]) 4 32 Try.underlying23 HI zP (by decide) q1 k c1 (cellsP (L.take k)) ?_ ?_ ⟨wr.heap.size, 0, none⟩ 1 1 (Pk.cells ⟨pk_, pd, pl, py⟩) ?_ rfl ?_ (pk_one _ _ _ _) H1 H2 ?_
          · exact rfl
          · exact (hA.same (by repeat (first | exact Keeps.refl _ _ | refine Keeps.drew ?_ | refine Keeps.drewN ?_ _ | refine Keeps.alloc ?_ _ | exact Hid.out (by assumption) | refine Keeps.trans ?_ (by assumption)))).own
          · exact rfl
          · exact blk_news (t := 29) (by first | exact Blk.new_at (by simp) | exact (Blk.new_at (by simp)).alloc _)
          intro q2 c2 w6 hown6 hk6 hat6 _
          obtain ⟨W1, hk6, hat6, K1⟩ := kpack hk6 hat6 (show Same wr _ from by repeat (first | exact Keeps.refl _ _ | refine Keeps.drew ?_ | refine Keeps.drewN ?_ _ | refine Keeps.alloc ?_ _ | exact Hid.out (by assumption) | refine Keeps.trans ?_ (by assumption)))
          have hf6 := fun (p : Addr) (v : Value) (hp : p.block = (a.add (k * 4)).block) (h : wr.cell? p = some v) => (told_keep K1 hk6 (by rw [hp]; exact hAB) (by rw [hp]; exact hABq) h : w6.cell? p = some v)
          have hAB6 : (a.add (k * 4)).block < w6.heap.size := Nat.lt_of_lt_of_le hAB (Nat.le_trans K1.size hk6.size)
          have f0 := hf6 _ _ rfl e0
          have f1 := hf6 ⟨(a.add (k * 4)).block, (a.add (k * 4)).off + 1, none⟩ _ rfl e1
          have f2 := hf6 ⟨(a.add (k * 4)).block, (a.add (k * 4)).off + 2, none⟩ _ rfl e2
          have f3 := hf6 ⟨(a.add (k * 4)).block, (a.add (k * 4)).off + 3, none⟩ _ rfl e3
          refine hK.out _ _ (by (try dsimp only); exact ⟨f0, f1, f2, f3⟩) (fun hHeld => ?_)
          clear hK K
          try simp only [Act.put, List.setIfInBounds_toArray, List.set_cons_zero, List.set_cons_succ]
          refine wpAnyH_ready (rs := [12]) (by kernel_rfl) (by simp) ?_
          refine AllReadyH.cons (o := ⟨some 29, _, _, _, _, _⟩) rfl (fun K hK => ?_) AllReadyH.nil
          go_simp
          refine hK.out _ _ (by (try dsimp only); go_simp) (fun hHeld => ?_)
          clear hK K
          try simp only [Act.put, List.setIfInBounds_toArray, List.set_cons_zero, List.set_cons_succ]
          refine wpAnyH_ready (rs := [13]) (by kernel_rfl) (by simp) ?_
          refine AllReadyH.cons (o := ⟨some 30, _, _, _, _, _⟩) rfl (fun K hK => ?_) AllReadyH.nil
          refine wp_push _ (.tmp 24) (.tmp 29) 25 rfl 28 i1 (.agg #[.int .i64 0, .int .i64 0, .int .i64 0, .int .u8 0]) 4 32 Try.underlying25 HI1 zP (by decide) r1 k d1 (cellsP (L.take k)) ?_ ?_ ⟨w6.heap.size, 0, none⟩ 1 1 (Pk.cells ⟨pk_, pd, pl, py⟩) ?_ rfl ?_ (pk_one _ _ _ _) H1 H2 ?_
          · exact rfl
          · exact (((hB.same K1).keeps hk6 (fun b hb e => hdj b e hb)).same (by repeat (first | exact Keeps.refl _ _ | refine Keeps.drew ?_ | refine Keeps.drewN ?_ _ | refine Keeps.alloc ?_ _ | exact Hid.out (by assumption) | refine Keeps.trans ?_ (by assumption)))).own
          · exact rfl
          · exact blk_news (t := 28) (by exact Blk.new_at (by simp))
          intro r2 d2 w7 hown7 hk7 hat7 _
          obtain ⟨W2, hk7, hat7, K2⟩ := kpack hk7 hat7 (show Same w6 _ from by repeat (first | exact Keeps.refl _ _ | refine Keeps.drew ?_ | refine Keeps.drewN ?_ _ | refine Keeps.alloc ?_ _ | exact Hid.out (by assumption) | refine Keeps.trans ?_ (by assumption)))
          have HR := hid (told_step hB.lt hdj hgA hgB hsm K1 hown6 hk6 hat6 K2 hown7 hk7 hat7)
          have l6 := hk6.size
          have l1 := K1.size
          have hf7 := fun (p : Addr) (v : Value) (hp : p.block = (a.add (k * 4)).block) (h : w6.cell? p = some v) => (told_keep K2 hk7 (by rw [hp]; omega) (by rw [hp]; exact hABr) h : w7.cell? p = some v)
          have g0 := hf7 _ _ rfl f0
          have g1 := hf7 ⟨(a.add (k * 4)).block, (a.add (k * 4)).off + 1, none⟩ _ rfl f1
          have g2 := hf7 ⟨(a.add (k * 4)).block, (a.add (k * 4)).off + 2, none⟩ _ rfl f2
          have g3 := hf7 ⟨(a.add (k * 4)).block, (a.add (k * 4)).off + 3, none⟩ _ rfl f3
          clear f0 f1 f2 f3 hf6 hf7 hown6 hk6 hat6 hown7 hk7 hat7
          refine hK.out _ _ (by (try dsimp only); exact ⟨g0, g1, g2, g3⟩) (fun hHeld => ?_)
          clear hK K
          try simp only [Act.put, List.setIfInBounds_toArray, List.set_cons_zero, List.set_cons_succ]
          refine wpAnyH_take (i := 14) (oi := ⟨some 4, _, _, _, _, _⟩) (v := ?v14a) rfl (by kernel_rfl) (by kernel_rfl) (by kernel_rfl) (fun _ _ _ h => h) (Or.inl ⟨by rfl, ?h14a⟩) (by assumption) ?r14a
          case h14a => intro w hSw; (try dsimp only at hSw); go_simp; (try with_reducible rfl)
          try simp only [Act.put, List.setIfInBounds_toArray, List.set_cons_zero, List.set_cons_succ]
          refine wpAnyH_take (i := 15) (oi := ⟨some 5, _, _, _, _, _⟩) (v := ?v15a) rfl (by kernel_rfl) (by kernel_rfl) (by kernel_rfl) (fun _ _ _ h => h) (Or.inl ⟨by rfl, ?h15a⟩) (by assumption) ?r15a
          case h15a => intro w hSw; (try dsimp only at hSw); go_simp; (try with_reducible rfl)
          try simp only [Act.put, List.setIfInBounds_toArray, List.set_cons_zero, List.set_cons_succ]
          refine wpAnyH_done (by kernel_rfl) ?_ _
          go_wp2_with fail
          obtain ⟨m1, m2, m3, m4, m5, m6⟩ := HR.out
          exact ⟨⟨k + 1, by omega, by go_num, q2, c2, r2, d2, rfl, rfl, (by rw [HTK.out, cellsP_snoc]; exact m1), (by rw [HTK.out, cellsP_snoc]; exact m2), m3, m4, m5, m6⟩, by simp [intOf]; omega⟩
        · go_simp
          refine hK.out _ _ (by (try dsimp only); go_simp) (fun hHeld => ?_)
          clear hK K
          try simp only [Act.put, List.setIfInBounds_toArray, List.set_cons_zero, List.set_cons_succ]
          refine wpAnyH_ready (rs := [6]) (by kernel_rfl) (by simp) ?_
          refine AllReadyH.cons (o := ⟨some 23, _, _, _, _, _⟩) rfl (fun K hK => ?_) AllReadyH.nil
          refine wp_push _ (.tmp 17) (.tmp 22) 23 rfl 29 i0 (.agg #[.int .i64 0, .int .i64 0, .int .i64 0, .int .u8 0]) 4 32 Try.underlying23 HI zP (by decide) q1 k c1 (cellsP (L.take k)) ?_ ?_ ⟨wr.heap.size, 0, none⟩ 1 1 (Pk.cells ⟨pk_, pd, pl, py⟩) ?_ rfl ?_ (pk_one _ _ _ _) H1 H2 ?_
          · exact rfl
          · exact (hA.same (by repeat (first | exact Keeps.refl _ _ | refine Keeps.drew ?_ | refine Keeps.drewN ?_ _ | refine Keeps.alloc ?_ _ | exact Hid.out (by assumption) | refine Keeps.trans ?_ (by assumption)))).own
          · exact rfl
          · exact blk_news (t := 29) (by first | exact Blk.new_at (by simp) | exact (Blk.new_at (by simp)).alloc _)
          intro q2 c2 w6 hown6 hk6 hat6 _
          have hX2 : Blk w6 (wr.heap.size + 1) #[i6 pk_, i6 pd, i6 pl, b8 py] 28 := Blk.keeps (by first | exact Blk.new_at (by simp) | exact (Blk.new_at (by simp)).alloc _) hk6 (fun e => by have := hA.lt _ e; omega)
          obtain ⟨W1, hk6, hat6, K1⟩ := kpack hk6 hat6 (show Same wr _ from by repeat (first | exact Keeps.refl _ _ | refine Keeps.drew ?_ | refine Keeps.drewN ?_ _ | refine Keeps.alloc ?_ _ | exact Hid.out (by assumption) | refine Keeps.trans ?_ (by assumption)))
          have hf6 := fun (p : Addr) (v : Value) (hp : p.block = (a.add (k * 4)).block) (h : wr.cell? p = some v) => (told_keep K1 hk6 (by rw [hp]; exact hAB) (by rw [hp]; exact hABq) h : w6.cell? p = some v)
          have hAB6 : (a.add (k * 4)).block < w6.heap.size := Nat.lt_of_lt_of_le hAB (Nat.le_trans K1.size hk6.size)
          have f0 := hf6 _ _ rfl e0
          have f1 := hf6 ⟨(a.add (k * 4)).block, (a.add (k * 4)).off + 1, none⟩ _ rfl e1
          have f2 := hf6 ⟨(a.add (k * 4)).block, (a.add (k * 4)).off + 2, none⟩ _ rfl e2
          have f3 := hf6 ⟨(a.add (k * 4)).block, (a.add (k * 4)).off + 3, none⟩ _ rfl e3
          refine hK.out _ _ (by (try dsimp only); exact ⟨f0, f1, f2, f3⟩) (fun hHeld => ?_)
          clear hK K
          try simp only [Act.put, List.setIfInBounds_toArray, List.set_cons_zero, List.set_cons_succ]
          refine wpAnyH_ready (rs := [13]) (by kernel_rfl) (by simp) ?_
          refine AllReadyH.cons (o := ⟨some 30, _, _, _, _, _⟩) rfl (fun K hK => ?_) AllReadyH.nil
          refine wp_push _ (.tmp 24) (.tmp 29) 25 rfl 28 i1 (.agg #[.int .i64 0, .int .i64 0, .int .i64 0, .int .u8 0]) 4 32 Try.underlying25 HI1 zP (by decide) r1 k d1 (cellsP (L.take k)) ?_ ?_ ⟨wr.heap.size + 1, 0, none⟩ 1 1 (Pk.cells ⟨pk_, pd, pl, py⟩) ?_ rfl ?_ (pk_one _ _ _ _) H1 H2 ?_
          · exact rfl
          · exact (((hB.same K1).keeps hk6 (fun b hb e => hdj b e hb)).same (by repeat (first | exact Keeps.refl _ _ | refine Keeps.drew ?_ | refine Keeps.drewN ?_ _ | refine Keeps.alloc ?_ _ | exact Hid.out (by assumption) | refine Keeps.trans ?_ (by assumption)))).own
          · exact rfl
          · exact blk_news (t := 28) (hX2)
          intro r2 d2 w7 hown7 hk7 hat7 _
          obtain ⟨W2, hk7, hat7, K2⟩ := kpack hk7 hat7 (show Same w6 _ from by repeat (first | exact Keeps.refl _ _ | refine Keeps.drew ?_ | refine Keeps.drewN ?_ _ | refine Keeps.alloc ?_ _ | exact Hid.out (by assumption) | refine Keeps.trans ?_ (by assumption)))
          have HR := hid (told_step hB.lt hdj hgA hgB hsm K1 hown6 hk6 hat6 K2 hown7 hk7 hat7)
          have l6 := hk6.size
          have l1 := K1.size
          have hf7 := fun (p : Addr) (v : Value) (hp : p.block = (a.add (k * 4)).block) (h : w6.cell? p = some v) => (told_keep K2 hk7 (by rw [hp]; omega) (by rw [hp]; exact hABr) h : w7.cell? p = some v)
          have g0 := hf7 _ _ rfl f0
          have g1 := hf7 ⟨(a.add (k * 4)).block, (a.add (k * 4)).off + 1, none⟩ _ rfl f1
          have g2 := hf7 ⟨(a.add (k * 4)).block, (a.add (k * 4)).off + 2, none⟩ _ rfl f2
          have g3 := hf7 ⟨(a.add (k * 4)).block, (a.add (k * 4)).off + 3, none⟩ _ rfl f3
          clear f0 f1 f2 f3 hf6 hf7 hown6 hk6 hat6 hown7 hk7 hat7
          refine hK.out _ _ (by (try dsimp only); exact ⟨g0, g1, g2, g3⟩) (fun hHeld => ?_)
          clear hK K
          try simp only [Act.put, List.setIfInBounds_toArray, List.set_cons_zero, List.set_cons_succ]
          refine wpAnyH_take (i := 14) (oi := ⟨some 4, _, _, _, _, _⟩) (v := ?v14b) rfl (by kernel_rfl) (by kernel_rfl) (by kernel_rfl) (fun _ _ _ h => h) (Or.inl ⟨by rfl, ?h14b⟩) (by assumption) ?r14b
          case h14b => intro w hSw; (try dsimp only at hSw); go_simp; (try with_reducible rfl)
          try simp only [Act.put, List.setIfInBounds_toArray, List.set_cons_zero, List.set_cons_succ]
          refine wpAnyH_take (i := 15) (oi := ⟨some 5, _, _, _, _, _⟩) (v := ?v15b) rfl (by kernel_rfl) (by kernel_rfl) (by kernel_rfl) (fun _ _ _ h => h) (Or.inl ⟨by rfl, ?h15b⟩) (by assumption) ?r15b
          case h15b => intro w hSw; (try dsimp only at hSw); go_simp; (try with_reducible rfl)
          try simp only [Act.put, List.setIfInBounds_toArray, List.set_cons_zero, List.set_cons_succ]
          refine wpAnyH_done (by kernel_rfl) ?_ _
          go_wp2_with fail
          obtain ⟨m1, m2, m3, m4, m5, m6⟩ := HR.out
          exact ⟨⟨k + 1, by omega, by go_num, q2, c2, r2, d2, rfl, rfl, (by rw [HTK.out, cellsP_snoc]; exact m1), (by rw [HTK.out, cellsP_snoc]; exact m2), m3, m4, m5, m6⟩, by simp [intOf]; omega⟩
      · go_simp
        refine hK.out _ _ (by (try dsimp only); go_simp) (fun hHeld => ?_)
        clear hK K
        try simp only [Act.put, List.setIfInBounds_toArray, List.set_cons_zero, List.set_cons_succ]
        refine wpAnyH_ready (rs := [5]) (by kernel_rfl) (by simp) ?_
        refine AllReadyH.cons (o := ⟨some 22, _, _, _, _, _⟩) rfl (fun K hK => ?_) AllReadyH.nil
        go_simp
        refine hK.out _ _ (by (try dsimp only); go_simp) (fun hHeld => ?_)
        clear hK K
        try simp only [Act.put, List.setIfInBounds_toArray, List.set_cons_zero, List.set_cons_succ]
        refine wpAnyH_ready (rs := [6]) (by kernel_rfl) (by simp) ?_
        refine AllReadyH.cons (o := ⟨some 23, _, _, _, _, _⟩) rfl (fun K hK => ?_) AllReadyH.nil
        refine wp_push _ (.tmp 17) (.tmp 22) 23 rfl 29 i0 (.agg #[.int .i64 0, .int .i64 0, .int .i64 0, .int .u8 0]) 4 32 Try.underlying23 HI zP (by decide) q1 k c1 (cellsP (L.take k)) ?_ ?_ ⟨wr.heap.size + 1, 0, none⟩ 1 1 (Pk.cells ⟨pk_, pd, pl, py⟩) ?_ rfl ?_ (pk_one _ _ _ _) H1 H2 ?_
        · exact rfl
        · exact (hA.same (by repeat (first | exact Keeps.refl _ _ | refine Keeps.drew ?_ | refine Keeps.drewN ?_ _ | refine Keeps.alloc ?_ _ | exact Hid.out (by assumption) | refine Keeps.trans ?_ (by assumption)))).own
        · exact rfl
        · exact blk_news (t := 29) (by first | exact Blk.new_at (by simp) | exact (Blk.new_at (by simp)).alloc _)
        intro q2 c2 w6 hown6 hk6 hat6 _
        have hX2 : Blk w6 (wr.heap.size) #[i6 pk_, i6 pd, i6 pl, b8 py] 28 := Blk.keeps (by first | exact Blk.new_at (by simp) | exact (Blk.new_at (by simp)).alloc _) hk6 (fun e => by have := hA.lt _ e; omega)
        obtain ⟨W1, hk6, hat6, K1⟩ := kpack hk6 hat6 (show Same wr _ from by repeat (first | exact Keeps.refl _ _ | refine Keeps.drew ?_ | refine Keeps.drewN ?_ _ | refine Keeps.alloc ?_ _ | exact Hid.out (by assumption) | refine Keeps.trans ?_ (by assumption)))
        have hf6 := fun (p : Addr) (v : Value) (hp : p.block = (a.add (k * 4)).block) (h : wr.cell? p = some v) => (told_keep K1 hk6 (by rw [hp]; exact hAB) (by rw [hp]; exact hABq) h : w6.cell? p = some v)
        have hAB6 : (a.add (k * 4)).block < w6.heap.size := Nat.lt_of_lt_of_le hAB (Nat.le_trans K1.size hk6.size)
        have f0 := hf6 _ _ rfl e0
        have f1 := hf6 ⟨(a.add (k * 4)).block, (a.add (k * 4)).off + 1, none⟩ _ rfl e1
        have f2 := hf6 ⟨(a.add (k * 4)).block, (a.add (k * 4)).off + 2, none⟩ _ rfl e2
        have f3 := hf6 ⟨(a.add (k * 4)).block, (a.add (k * 4)).off + 3, none⟩ _ rfl e3
        refine hK.out _ _ (by (try dsimp only); exact ⟨f0, f1, f2, f3⟩) (fun hHeld => ?_)
        clear hK K
        try simp only [Act.put, List.setIfInBounds_toArray, List.set_cons_zero, List.set_cons_succ]
        refine wpAnyH_ready (rs := [13]) (by kernel_rfl) (by simp) ?_
        refine AllReadyH.cons (o := ⟨some 30, _, _, _, _, _⟩) rfl (fun K hK => ?_) AllReadyH.nil
        refine wp_push _ (.tmp 24) (.tmp 29) 25 rfl 28 i1 (.agg #[.int .i64 0, .int .i64 0, .int .i64 0, .int .u8 0]) 4 32 Try.underlying25 HI1 zP (by decide) r1 k d1 (cellsP (L.take k)) ?_ ?_ ⟨wr.heap.size, 0, none⟩ 1 1 (Pk.cells ⟨pk_, pd, pl, py⟩) ?_ rfl ?_ (pk_one _ _ _ _) H1 H2 ?_
        · exact rfl
        · exact (((hB.same K1).keeps hk6 (fun b hb e => hdj b e hb)).same (by repeat (first | exact Keeps.refl _ _ | refine Keeps.drew ?_ | refine Keeps.drewN ?_ _ | refine Keeps.alloc ?_ _ | exact Hid.out (by assumption) | refine Keeps.trans ?_ (by assumption)))).own
        · exact rfl
        · exact blk_news (t := 28) (hX2)
        intro r2 d2 w7 hown7 hk7 hat7 _
        obtain ⟨W2, hk7, hat7, K2⟩ := kpack hk7 hat7 (show Same w6 _ from by repeat (first | exact Keeps.refl _ _ | refine Keeps.drew ?_ | refine Keeps.drewN ?_ _ | refine Keeps.alloc ?_ _ | exact Hid.out (by assumption) | refine Keeps.trans ?_ (by assumption)))
        have HR := hid (told_step hB.lt hdj hgA hgB hsm K1 hown6 hk6 hat6 K2 hown7 hk7 hat7)
        have l6 := hk6.size
        have l1 := K1.size
        have hf7 := fun (p : Addr) (v : Value) (hp : p.block = (a.add (k * 4)).block) (h : w6.cell? p = some v) => (told_keep K2 hk7 (by rw [hp]; omega) (by rw [hp]; exact hABr) h : w7.cell? p = some v)
        have g0 := hf7 _ _ rfl f0
        have g1 := hf7 ⟨(a.add (k * 4)).block, (a.add (k * 4)).off + 1, none⟩ _ rfl f1
        have g2 := hf7 ⟨(a.add (k * 4)).block, (a.add (k * 4)).off + 2, none⟩ _ rfl f2
        have g3 := hf7 ⟨(a.add (k * 4)).block, (a.add (k * 4)).off + 3, none⟩ _ rfl f3
        clear f0 f1 f2 f3 hf6 hf7 hown6 hk6 hat6 hown7 hk7 hat7
        refine hK.out _ _ (by (try dsimp only); exact ⟨g0, g1, g2, g3⟩) (fun hHeld => ?_)
        clear hK K
        try simp only [Act.put, List.setIfInBounds_toArray, List.set_cons_zero, List.set_cons_succ]
        refine wpAnyH_take (i := 14) (oi := ⟨some 4, _, _, _, _, _⟩) (v := ?v14c) rfl (by kernel_rfl) (by kernel_rfl) (by kernel_rfl) (fun _ _ _ h => h) (Or.inl ⟨by rfl, ?h14c⟩) (by assumption) ?r14c
        case h14c => intro w hSw; (try dsimp only at hSw); go_simp; (try with_reducible rfl)
        try simp only [Act.put, List.setIfInBounds_toArray, List.set_cons_zero, List.set_cons_succ]
        refine wpAnyH_take (i := 15) (oi := ⟨some 5, _, _, _, _, _⟩) (v := ?v15c) rfl (by kernel_rfl) (by kernel_rfl) (by kernel_rfl) (fun _ _ _ h => h) (Or.inl ⟨by rfl, ?h15c⟩) (by assumption) ?r15c
        case h15c => intro w hSw; (try dsimp only at hSw); go_simp; (try with_reducible rfl)
        try simp only [Act.put, List.setIfInBounds_toArray, List.set_cons_zero, List.set_cons_succ]
        refine wpAnyH_done (by kernel_rfl) ?_ _
        go_wp2_with fail
        obtain ⟨m1, m2, m3, m4, m5, m6⟩ := HR.out
        exact ⟨⟨k + 1, by omega, by go_num, q2, c2, r2, d2, rfl, rfl, (by rw [HTK.out, cellsP_snoc]; exact m1), (by rw [HTK.out, cellsP_snoc]; exact m2), m3, m4, m5, m6⟩, by simp [intOf]; omega⟩
    · have hle : k = L.length := by omega
      subst hle
      rw [List.take_length] at hA hB
      go_wp2_with fail
      all_goals first
        | (exfalso; omega)
        | (go_ret2; exact ⟨q1, c1, r1, d1, by rw [hL]; rfl, ⟨hA.own⟩, hB, hgA, hgB, hsm⟩)
end Go.Proofs.Ytalopgbkjgjppaa
