/- The walks of window's functions. -/
import Derived.Test.YtalopgbkjgjppaaPk8
import Derived.Maps.AppendAt
import Derived.Laws.IdiomStrings
namespace Go.Proofs.Ytalopgbkjgjppaa
open Go.RowKit Go.Cas

abbrev b8 (b : UInt8) : Value := .int .u8 (b.toNat : Int)

theorem Try.infoB : (Try.prog.info? 5).map (fun i => (i.zero, i.size, i.bytes)) = some (some (.int .u8 0), 1, 1) := by kernel_rfl

/-- A window: so many bytes at most; these were written. -/
structure Win (w : World) (p M : Nat) (bs : List UInt8) (q : Option Addr) (cap : Nat) : Prop where
  blk : Blk w p #[i6 M, .slice q bs.length cap] 107
  own : w.ownsRow 0 5 1 (.slice q bs.length cap) bs.length (bs.map b8)
  ne : Value.ownBlock (.slice q bs.length cap) ≠ some p

/-- The blocks of a window. -/
def winF (p : Nat) (q : Option Addr) : Nat → Prop := fun k => k = p ∨ q.map Addr.block = some k

theorem Win.keeps {S : Nat → Prop} {w w' : World} {p M cap : Nat} {bs : List UInt8} {q : Option Addr} (h : Win w p M bs q cap) (k : Keeps S w w') (hn : ∀ b, winF p q b → ¬ S b) : Win w' p M bs q cap :=
  ⟨h.blk.keeps k (hn _ (.inl rfl)), ownsRow_keeps h.own k fun b hb => hn b (.inr (by rw [← hb, ownBlock_slice])), h.ne⟩

theorem Win.nil {w : World} {p M cap : Nat} {bs : List UInt8} (h : Win w p M bs none cap) : bs = [] := by
  rcases h.own.2 with ⟨h1, h2⟩ | ⟨g, c, cur, h1, _⟩
  · exact List.eq_nil_of_length_eq_zero h2
  · simp at h1

theorem Win.some {w : World} {p M cap : Nat} {bs : List UInt8} {a : Addr} (h : Win w p M bs (some a) cap) : a = ⟨a.block, 0, none⟩ := by
  rcases h.own.2 with ⟨h1, h2⟩ | ⟨g, c, cur, h1, _⟩
  · simp at h1
  · simp at h1; rw [h1.1]

theorem b8_get (bs : List UInt8) (j : Nat) (hj : j < bs.length) : (bs.map b8)[j]? = some (b8 bs[j]) := by simp [hj]

set_option maxHeartbeats 1000000 in
theorem wnew_any (m : Int) (w : World) :
    Calls Try.prog 37 #[i6 m] w fun z w' => z = .returned (.pointer (some ⟨w.heap.size, 0, none⟩)) ∧ Same w w' ∧ Win w' w.heap.size m.toNat [] none 0 := by
  have em : ((m.toNat : Nat) : Int) = max m 0 := by omega
  by_cases hm : 0 ≤ m
  all_goals
    go_enter Try.func37, Try.ntmps37
    go_wp2
    go_ret
    refine ⟨rfl, (Keeps.refl _ _).alloc _, ?_, World.ownsRow_nil _ _ _ _, by simp [Value.ownBlock]⟩
    rw [em]
    first | rw [Int.max_eq_left hm] | rw [Int.max_eq_right (by omega)]
    exact Blk.new _ _ _

set_option maxHeartbeats 1000000 in
theorem wlen_any (p M cap : Nat) (bs : List UInt8) (q : Option Addr) (w : World) (h : Win w p M bs q cap) :
    Calls Try.prog 40 #[.pointer (some ⟨p, 0, none⟩)] w fun z w' => z = .returned (i6 bs.length) ∧ w = w' := by
  have hc := h.blk.cell 1
  simp only [List.getElem?_toArray, List.getElem?_cons_succ, List.getElem?_cons_zero] at hc
  go_enter Try.func40, Try.ntmps40
  go_wp2
  go_ret
  exact ⟨rfl, rfl⟩

set_option maxHeartbeats 1000000 in
theorem wtext_any (p M cap : Nat) (bs : List UInt8) (q : Option Addr) (w : World) (h : Win w p M bs q cap) :
    Calls Try.prog 42 #[.pointer (some ⟨p, 0, none⟩)] w fun z w' => z = .returned (.string ⟨bs.toArray⟩) ∧ w = w' := by
  have hc := h.blk.cell 1
  simp only [List.getElem?_toArray, List.getElem?_cons_succ, List.getElem?_cons_zero] at hc
  have hcv : (convert 83 9 (.slice q bs.length cap)).run Try.prog w = .ok (.string ⟨bs.toArray⟩) w := by
    cases q with
    | none =>
      obtain rfl := h.nil
      exact run_convert_bytes_nil w 83 5 Try.underlying83 Try.underlying5 _ _ 9 Try.underlying9
    | some a =>
      have ea := h.some
      refine run_convert_bytes_back w 83 9 5 a cap bs Try.underlying83 Try.underlying5 Try.underlying9 fun j hj => ?_
      have hown := h.own
      rw [ea] at hown ⊢
      exact hown.cells rfl j _ (b8_get bs j hj)
  go_enter Try.func42, Try.ntmps42
  go_wp2
  go_ret
  exact ⟨rfl, rfl⟩

set_option maxHeartbeats 1000000 in
theorem wput_no (p M cap : Nat) (bs : List UInt8) (q : Option Addr) (x : Int) (w : World) (h : Win w p M bs q cap) (hl : M ≤ bs.length) :
    Calls Try.prog 38 #[.pointer (some ⟨p, 0, none⟩), .int .u8 x] w fun z w' => z = .returned (.bool false) ∧ Same w w' := by
  have hc0 := h.blk.cell 0
  have hc := h.blk.cell 1
  simp only [List.getElem?_toArray, List.getElem?_cons_succ, List.getElem?_cons_zero] at hc hc0
  go_enter Try.func38, Try.ntmps38
  go_wp2
  go_quiet (fail)
  go_wp2
  go_ret
  exact ⟨rfl, (Keeps.refl _ _).drewN _⟩

theorem win_step {w W w1 : World} {p M cap c1 : Nat} {bs : List UInt8} {x : UInt8} {q q1 : Option Addr} (h : Win w p M bs q cap)
    (hown : w1.ownsRow 0 5 1 (.slice q1 (bs.length + 1) c1) (bs.length + 1) (bs.map b8 ++ [b8 x])) (hw : Same w W) (hk : Keeps (sblk q) W w1) (hat : ∀ k, sblk q1 k → sblk q k ∨ k = W.heap.size) :
    w1.cell? ⟨p, 1, none⟩ = some (.slice q bs.length cap) ∧ w1.frozen? ⟨p, 1, none⟩ = false ∧
    Hid (Win (w1.setCell ⟨p, 1, none⟩ (.slice q1 (bs.length + 1) c1)) p M (bs ++ [x]) q1 c1 ∧ Keeps (winF p q) w (w1.setCell ⟨p, 1, none⟩ (.slice q1 (bs.length + 1) c1)) ∧ (∀ k, winF p q1 k → winF p q k ∨ w.heap.size ≤ k)) := by
  have hp : ¬ sblk q p := fun e => h.ne (by rw [ownBlock_slice]; exact e)
  have hb1 : Blk w1 p #[i6 M, .slice q bs.length cap] 107 := (h.blk.keeps hw (fun h => h)).keeps hk hp
  have hpl : p < w.heap.size := h.blk.lt
  have hne : Value.ownBlock (.slice q1 (bs.length + 1) c1) ≠ some p := by
    rw [ownBlock_slice]
    intro e
    rcases hat p e with e | e
    · exact hp e
    · have := hw.size; omega
  refine ⟨by simpa using hb1.cell 1, hb1.frozen 1, hid ⟨⟨?_, ?_, ?_⟩, ?_, ?_⟩⟩
  · have := hb1.set 1 (.slice q1 (bs.length + 1) c1)
    simpa using this
  · have := ownsRow_keeps (S := fun k => k = p) hown (Keeps.setCell (Keeps.refl (fun k => k = p) w1) (p := ⟨p, 1, none⟩) (fun _ => rfl) (.slice q1 (bs.length + 1) c1)) (fun b hb e => hne (e ▸ hb))
    simpa using this
  · simpa using hne
  · refine Keeps.setCell ?_ (fun _ => .inl rfl) _
    refine ((Keeps.of_same hw).trans' (hk.mono (S' := winF p q) fun b _ hb => .inr hb) fun _ _ h => h)
  · rintro k (rfl | hk')
    · exact .inl (.inl rfl)
    · rcases hat k hk' with e | e
      · exact .inl (.inr e)
      · exact .inr (by have := hw.size; omega)

theorem b8_one (x : UInt8) : ∀ u ∈ [b8 x], u.oneCell' = true := by intro u hu; simp at hu; subst hu; rfl

set_option maxHeartbeats 1000000 in
theorem wput_yes (p M cap : Nat) (bs : List UInt8) (q : Option Addr) (x : UInt8) (w : World) (h : Win w p M bs q cap) (hl : bs.length < M) (hB : bs.length < 100000000000) :
    Calls Try.prog 38 #[.pointer (some ⟨p, 0, none⟩), b8 x] w fun z w' => z = .returned (.bool true) ∧
      ∃ q' cap', Win w' p M (bs ++ [x]) q' cap' ∧ Keeps (winF p q) w w' ∧ (∀ k, winF p q' k → winF p q k ∨ w.heap.size ≤ k) := by
  have hc0 := h.blk.cell 0
  have hc := h.blk.cell 1
  have hd : decide (M ≤ bs.length) = false := by simp; omega
  have H1 := hid (show bs.length + 1 ≤ maxLen by unfold maxLen; omega)
  have H2 := hid (show (bs.length + 1) * 1 ≤ 140737488355328 by omega)
  clear hB
  obtain ⟨i0, HI⟩ := info_hid Try.infoB
  simp only [List.getElem?_toArray, List.getElem?_cons_succ, List.getElem?_cons_zero] at hc hc0
  go_enter Try.func38, Try.ntmps38
  go_wp2
  go_quiet (fail)
  have hW : Win (w.drewN nq) p M bs q cap := h.keeps (S := fun _ => False) ((Keeps.refl _ _).drewN _) (fun _ _ h => h)
  go_wp2_with ((at_builtin; refine wpList_push _ rfl _ _ 83 rfl 5 i0 (.int .u8 0) 1 1 Try.underlying83 HI rfl (by decide) _ _ _ _ rfl (hW.own.alloc _) ⟨w.heap.size, 0, none⟩ 1 1 [b8 x] rfl rfl (cell_one_new _ _ _) (b8_one x) H1 H2 ?_; intro q1 c1 w1 hown1 hk1 hat1 _; obtain ⟨hx1, hx2, HX⟩ := win_step h hown1 (((Keeps.refl (fun _ => False) w).drewN nq).alloc (.cells #[b8 x] 5)) hk1 hat1; clear hown1 hk1 hat1))
  go_ret
  exact ⟨rfl, q1, c1, HX.out⟩
end Go.Proofs.Ytalopgbkjgjppaa
