/- Part of a proof: Ra, Rb, Rc. -/
import Derived.Test.YtalopgbkjgjppaaGreatDoorGWin
import Derived.Test.YtalopgbkjgjppaaGreatDoorEc
import Derived.BigRegion
import Derived.Deep.DeepCutAuto
/- The walks of rc's encoder: learn, shift, widen. -/
namespace Go.Proofs.YtalopgbkjgjppaaGreatDoor
open Go.RowKit Go.Cas Go.Cas.Enc

abbrev v32 (n : Nat) : Value := .int .u32 (n : Int)
abbrev v64 (n : Nat) : Value := .int .u64 (n : Int)
abbrev v16 (n : Nat) : Value := .int .u16 (n : Int)

/-- A probability that learned from a bit. -/
def learnP (p b : Nat) : Nat := if b = 0 then p + (2048 - p) / 32 else p - p / 32
theorem learnP_ok {p : Nat} (h : okPr p) (b : Nat) : okPr (learnP p b) := by
  unfold okPr learnP at *
  split <;> omega

set_option maxHeartbeats 1000000 in
theorem learn_any (g o p : Nat) (b : Nat) (hb : b ≤ 1) (hp : okPr p) (w : World) (hc : w.cell? ⟨g, o, none⟩ = some (v16 p)) (hf : w.frozen? ⟨g, o, none⟩ = false) :
    Calls Tryz.prog 140 #[.pointer (some ⟨g, o, none⟩), i6 b] w fun z w' => z = .returned (.tuple #[]) ∧ w' = (w.setCell ⟨g, o, none⟩ (v16 (learnP p b))).drew := by
  obtain ⟨p1, p2⟩ := hp
  rcases Nat.le_one_iff_eq_zero_or_eq_one.1 hb with rfl | rfl
  · have e : (p : Int) + (2048 - p) / 32 = ((learnP p 0 : Nat) : Int) := by unfold learnP; rw [if_pos rfl]; omega
    have HE := hid e
    clear e
    go_enter Tryz.func140, Tryz.ntmps140
    go_wp2_with fail
    go_region
    go_end0
    rw [HE.out]
    exact ⟨rfl, rfl⟩
  · have e : (p : Int) - p / 32 = ((learnP p 1 : Nat) : Int) := by unfold learnP; rw [if_neg (by decide)]; omega
    have HE := hid e
    clear e
    go_enter Tryz.func140, Tryz.ntmps140
    go_wp2_with fail
    go_region
    go_end0
    rw [HE.out]
    exact ⟨rfl, rfl⟩

/-- An encoder in memory. -/
structure Enw (w : World) (e : Nat) (E : Enc) (q : Option Addr) (cap : Nat) : Prop where
  blk : Blk w e #[v64 E.low, v32 E.size, b8 E.cache, i6 E.pend, .slice q E.out.length cap] 139
  own : w.ownsRow 0 5 1 (.slice q E.out.length cap) E.out.length (E.out.map b8)
  ne : ¬ sblk q e

theorem Enw.keeps {S : Nat → Prop} {w w' : World} {e cap : Nat} {E : Enc} {q : Option Addr} (h : Enw w e E q cap) (k : Keeps S w w') (hn : ∀ b, winF e q b → ¬ S b) : Enw w' e E q cap :=
  ⟨h.blk.keeps k (hn _ (.inl rfl)), ownsRow_keeps h.own k fun b hb => hn b (.inr (by rw [← hb, ownBlock_slice])), h.ne⟩

theorem Enw.lt {w : World} {e cap : Nat} {E : Enc} {q : Option Addr} (h : Enw w e E q cap) : ∀ b, winF e q b → b < w.heap.size := by
  rintro b (rfl | hb)
  · exact h.blk.lt
  · exact (h.own.lt b (by rw [ownBlock_slice]; exact hb)).2

/-- Other numbers in its cells. -/
theorem Enw.set {w w' : World} {e cap : Nat} {E E' : Enc} {q : Option Addr} (h : Enw w e E q cap) (ho : E'.out = E.out)
    (hb : Blk w' e #[v64 E'.low, v32 E'.size, b8 E'.cache, i6 E'.pend, .slice q E.out.length cap] 139) (hk : Keeps (fun b => b = e) w w') : Enw w' e E' q cap :=
  ⟨by rw [ho]; exact hb, by rw [ho]; exact ownsRow_keeps h.own hk fun b hb' e' => by subst e'; exact h.ne (by rw [ownBlock_slice] at hb'; exact hb'), h.ne⟩

/-- A byte behind the bytes that are out. -/
theorem Enw.push {w W w1 : World} {e cap c1 : Nat} {E : Enc} {x : UInt8} {q q1 : Option Addr} (h : Enw w e E q cap)
    (hown : w1.ownsRow 0 5 1 (.slice q1 (E.out.length + 1) c1) (E.out.length + 1) (E.out.map b8 ++ [b8 x])) (hw : Same w W) (hk : Keeps (sblk q) W w1) (hat : ∀ k, sblk q1 k → sblk q k ∨ k = W.heap.size) :
    w1.cell? ⟨e, 4, none⟩ = some (.slice q E.out.length cap) ∧ w1.frozen? ⟨e, 4, none⟩ = false ∧
    Hid (Enw (w1.setCell ⟨e, 4, none⟩ (.slice q1 (E.out.length + 1) c1)) e { E with out := E.out ++ [x] } q1 c1 ∧ Keeps (winF e q) w (w1.setCell ⟨e, 4, none⟩ (.slice q1 (E.out.length + 1) c1)) ∧ (∀ k, winF e q1 k → winF e q k ∨ w.heap.size ≤ k)) := by
  have hp : ¬ sblk q e := h.ne
  have hb1 := (h.blk.keeps hw (fun h => h)).keeps hk hp
  have hpl : e < w.heap.size := h.blk.lt
  have hne : ¬ sblk q1 e := by
    intro he
    rcases hat e he with e' | e'
    · exact hp e'
    · have := hw.size; omega
  refine ⟨by simpa using hb1.cell 4, hb1.frozen 4, hid ⟨⟨?_, ?_, hne⟩, ?_, ?_⟩⟩
  · have := hb1.set 4 (.slice q1 (E.out.length + 1) c1)
    simpa using this
  · have := ownsRow_keeps (S := fun k => k = e) hown (Keeps.setCell (Keeps.refl (fun k => k = e) w1) (p := ⟨e, 4, none⟩) (fun _ => rfl) (.slice q1 (E.out.length + 1) c1)) (fun b hb e' => hne (by rw [ownBlock_slice] at hb; exact e' ▸ hb))
    simpa using this
  · refine Keeps.setCell ?_ (fun _ => .inl rfl) _
    refine ((Keeps.of_same hw).trans' (hk.mono (S' := winF e q) fun b _ hb => .inr hb) fun _ _ h => h)
  · rintro k (rfl | hk')
    · exact .inl (.inl rfl)
    · rcases hat k hk' with e' | e'
      · exact .inl (.inr e')
      · exact .inr (by have := hw.size; omega)

def EncLeft (w w' : World) (z : Ending) (e : Nat) (E : Enc) (q : Option Addr) : Prop :=
  z = .returned (.tuple #[]) ∧ ∃ q' cap', Enw w' e E q' cap' ∧ Keeps (winF e q) w w' ∧ ∀ k, winF e q' k → winF e q k ∨ w.heap.size ≤ k

theorem enw_flush {w wr : World} {e low size j c2 : Nat} {cache : UInt8} {O : List UInt8} {q q2 : Option Addr} {v8 v0 : Int} (hE : Enw wr e ⟨low, size, cache, j, O⟩ q2 c2) (hK : Keeps (winF e q) w wr)
    (hG : ∀ k, winF e q2 k → winF e q k ∨ w.heap.size ≤ k) (h8 : v8 = ((low / 16777216 % 256 : Nat) : Int)) (h0 : v0 = ((low % 16777216 * 256 : Nat) : Int)) :
    EncLeft w (((wr.setCell ⟨e, 3, none⟩ (i6 0)).setCell ⟨e, 2, none⟩ (.int .u8 v8)).setCell ⟨e, 0, none⟩ (.int .u64 v0)) (.returned (.tuple #[])) e ⟨low % 16777216 * 256, size, UInt8.ofNat (low / 16777216), 0, O⟩ q := by
  have k1 : Keeps (fun b => b = e) wr (((wr.setCell ⟨e, 3, none⟩ (i6 0)).setCell ⟨e, 2, none⟩ (.int .u8 v8)).setCell ⟨e, 0, none⟩ (.int .u64 v0)) :=
    Keeps.setCell (Keeps.setCell (Keeps.setCell (Keeps.refl (fun b => b = e) wr) (p := ⟨e, 3, none⟩) (fun _ => rfl) _) (p := ⟨e, 2, none⟩) (fun _ => rfl) _) (p := ⟨e, 0, none⟩) (fun _ => rfl) _
  subst h8 h0
  refine ⟨rfl, q2, c2, hE.set rfl ?_ k1, hK.trans' k1 (fun b _ h => .inl h), hG⟩
  have hb := ((hE.blk.set 3 (i6 0)).set 2 (.int .u8 ((low / 16777216 % 256 : Nat) : Int))).set 0 (.int .u64 ((low % 16777216 * 256 : Nat) : Int))
  simp only [List.setIfInBounds_toArray, List.set_cons_zero, List.set_cons_succ] at hb
  have e8 : ((UInt8.ofNat (low / 16777216)).toNat : Int) = ((low / 16777216 % 256 : Nat) : Int) := by rw [UInt8.toNat_ofNat']
  show Blk _ e #[_, _, .int .u8 ((UInt8.ofNat (low / 16777216)).toNat : Int), _, _] _
  rw [e8]
  exact hb

theorem enw_pend {w : World} {e low size pend c : Nat} {cache : UInt8} {O : List UInt8} {q : Option Addr} {v3 v0 : Int} (hE : Enw w e ⟨low, size, cache, pend, O⟩ q c)
    (h3 : v3 = ((pend + 1 : Nat) : Int)) (h0 : v0 = ((low % 16777216 * 256 : Nat) : Int)) :
    EncLeft w ((w.setCell ⟨e, 3, none⟩ (.int .i64 v3)).setCell ⟨e, 0, none⟩ (.int .u64 v0)) (.returned (.tuple #[])) e ⟨low % 16777216 * 256, size, cache, pend + 1, O⟩ q := by
  have k1 : Keeps (fun b => b = e) w ((w.setCell ⟨e, 3, none⟩ (.int .i64 v3)).setCell ⟨e, 0, none⟩ (.int .u64 v0)) :=
    Keeps.setCell (Keeps.setCell (Keeps.refl (fun b => b = e) w) (p := ⟨e, 3, none⟩) (fun _ => rfl) _) (p := ⟨e, 0, none⟩) (fun _ => rfl) _
  subst h3 h0
  refine ⟨rfl, q, c, hE.set rfl ?_ k1, k1.mono (fun b _ h => Or.inl h), fun _ h => Or.inl h⟩
  have hb := (hE.blk.set 3 (.int .i64 ((pend + 1 : Nat) : Int))).set 0 (.int .u64 ((low % 16777216 * 256 : Nat) : Int))
  simp only [List.setIfInBounds_toArray, List.set_cons_zero, List.set_cons_succ] at hb
  exact hb

set_option maxHeartbeats 4000000 in
set_option maxRecDepth 100000 in
theorem shift_any (e cap : Nat) (E : Enc) (q : Option Addr) (w : World) (h : Enw w e E q cap) (hl : E.low < 8589934592) (hn : E.out.length + E.pend ≤ 100000000000) :
    Calls Tryz.prog 68 #[.pointer (some ⟨e, 0, none⟩)] w fun z w' => EncLeft w w' z e E.shift q := by
  have y0 := h.blk.cell 0
  have y2 := h.blk.cell 2
  have y3 := h.blk.cell 3
  have y4 := h.blk.cell 4
  simp only [List.getElem?_toArray, List.getElem?_cons_succ, List.getElem?_cons_zero] at y0 y2 y3 y4
  have hlt := h.blk.lt
  have hfr := h.blk.frozen
  obtain ⟨i0, HI⟩ := info_hid Tryz.infoB
  obtain ⟨low, size, cache, pend, out⟩ := E
  dsimp only at y0 y2 y3 y4 hl hn
  obtain ⟨cy, hcy⟩ : ∃ cy, carry ⟨low, size, cache, pend, out⟩ = cy := ⟨_, rfl⟩
  have hcn : (low : Int) / 4294967296 = (cy.toNat : Int) := by
    rcases carry_cases (e := ⟨low, size, cache, pend, out⟩) hl with ⟨a, b⟩ | ⟨a, b⟩
    · rw [← hcy, b]; dsimp only at a; show _ = (0 : Int); omega
    · rw [← hcy, b]; dsimp only at a; show _ = (1 : Int); omega
  by_cases hg : goes ⟨low, size, cache, pend, out⟩ = true
  · have hcs : low < 4278190080 ∧ cy = 0 ∨ 4294967296 ≤ low ∧ cy = 1 := by
      rcases carry_cases (e := ⟨low, size, cache, pend, out⟩) hl with ⟨a, b⟩ | ⟨a, b⟩
      · dsimp only at a
        left
        unfold goes at hg
        rw [b] at hg
        simp at hg
        exact ⟨by omega, by rw [← hcy]; exact b⟩
      · exact .inr ⟨a, by rw [← hcy]; exact b⟩
    have hsh : shift ⟨low, size, cache, pend, out⟩ = ⟨low % 16777216 * 256, size, UInt8.ofNat (low / 16777216), 0, out ++ [cache + cy] ++ List.replicate pend (255 + cy)⟩ := by
      unfold shift
      rw [if_pos hg, hcy]
      simp
    rw [hsh]
    have HS1 : ((cache.toNat : Int) + (cy.toNat : Int)) % 256 = ((cache + cy).toNat : Int) := by
      rw [UInt8.toNat_add]; show _ = (((_ % 256 : Nat)) : Int); omega
    have HS2 : (255 + (cy.toNat : Int)) % 256 = ((255 + cy).toNat : Int) := by
      rw [UInt8.toNat_add]; show _ = (((255 + _) % 256 : Nat) : Int); omega
    obtain ⟨x, hx⟩ : ∃ x, cache + cy = x := ⟨_, rfl⟩
    obtain ⟨y, hy⟩ : ∃ y, 255 + cy = y := ⟨_, rfl⟩
    rw [hx] at HS1 ⊢
    rw [hy] at HS2 ⊢
    have HS3 : IntKind.u8.wrap ((cache.toNat : Int) + (cy.toNat : Int)) = (x.toNat : Int) := by
      rw [← HS1]; simp [IntKind.wrap, IntKind.bits, IntKind.signed]
    clear hx hy
    have HCS := hid hcs
    have hgs : ((cy.toNat : Int) == 1) = true ∧ (low : Int) < 8589934592 ∨ ((cy.toNat : Int) == 1) = false ∧ (low : Int) < 4278190080 := by
      rcases hcs with ⟨a, rfl⟩ | ⟨a, rfl⟩
      · right; exact ⟨rfl, by omega⟩
      · left; exact ⟨rfl, by omega⟩
    have HPo : ∀ m : Nat, m ≤ pend → Hid (m + out.length + 2 ≤ maxLen) ∧ Hid ((m + out.length + 2) * 1 ≤ 140737488355328) := fun m hm => ⟨hid (by unfold maxLen; omega), hid (by omega)⟩
    have HN := hid hn
    have hpd : pend ≤ 100000000000 := by omega
    have HPP := hid HPo
    clear hg hsh hcy hcs hn HPo
    rcases hgs with ⟨g1, g2⟩ | ⟨g1, g2⟩
    · go_enter Tryz.func68, Tryz.ntmps68
      go_wp2_with fail
      refine wp_region_S (S := (fun W => W.cell? ⟨e, 4, none⟩ = some (.slice q out.length cap) ∧ W.cell? ⟨e, 2, none⟩ = some (b8 cache))) 13 (by kernel_rfl) (by (try dsimp only); go_simp) (fun hHeld => ?_)
      refine wpAnyS_take (i := 0) (oi := ⟨some 19, _, _, _, _, _⟩) (v := ?v0a) rfl (by kernel_rfl) (by kernel_rfl) (by kernel_rfl) (by kernel_rfl) (fun _ _ _ h => h) (Or.inl ⟨by rfl, ?h0a⟩) (by assumption) ?r0a
      case h0a => intro w hSw; (try dsimp only at hSw); go_simp; (try with_reducible rfl)
      try simp only [Act.put, List.setIfInBounds_toArray, List.set_cons_zero, List.set_cons_succ]
      refine wpAnyS_take (i := 1) (oi := ⟨some 20, _, _, _, _, _⟩) (v := ?v1a) rfl (by kernel_rfl) (by kernel_rfl) (by kernel_rfl) (by kernel_rfl) (fun _ _ _ h => h) (Or.inl ⟨by rfl, ?h1a⟩) (by assumption) ?r1a
      case h1a => intro w hSw; (try dsimp only at hSw); go_simp; (try with_reducible rfl)
      try simp only [Act.put, List.setIfInBounds_toArray, List.set_cons_zero, List.set_cons_succ]
      refine wpAnyS_take (i := 2) (oi := ⟨some 21, _, _, _, _, _⟩) (v := ?v2a) rfl (by kernel_rfl) (by kernel_rfl) (by kernel_rfl) (by kernel_rfl) (fun _ _ _ h => h) (Or.inl ⟨by rfl, ?h2a⟩) (by assumption) ?r2a
      case h2a => intro w hSw; (try dsimp only at hSw); go_simp; (try with_reducible rfl)
      try simp only [Act.put, List.setIfInBounds_toArray, List.set_cons_zero, List.set_cons_succ]
      refine wpAnyS_take (i := 3) (oi := ⟨some 22, _, _, _, _, _⟩) (v := ?v3a) rfl (by kernel_rfl) (by kernel_rfl) (by kernel_rfl) (by kernel_rfl) (fun _ _ _ h => h) (Or.inl ⟨by rfl, ?h3a⟩) (by assumption) ?r3a
      case h3a => intro w hSw; (try dsimp only at hSw); go_simp; (try with_reducible rfl)
      try simp only [Act.put, List.setIfInBounds_toArray, List.set_cons_zero, List.set_cons_succ]
      refine wpAnyS_take (i := 4) (oi := ⟨some 23, _, _, _, _, _⟩) (v := ?v4a) rfl (by kernel_rfl) (by kernel_rfl) (by kernel_rfl) (by kernel_rfl) (fun _ _ _ h => h) (Or.inl ⟨by rfl, ?h4a⟩) (by assumption) ?r4a
      case h4a => intro w hSw; (try dsimp only at hSw); go_simp; (try with_reducible rfl)
      try simp only [Act.put, List.setIfInBounds_toArray, List.set_cons_zero, List.set_cons_succ]
      refine wpAnyS_take (i := 5) (oi := ⟨some 24, _, _, _, _, _⟩) (v := ?v5a) rfl (by kernel_rfl) (by kernel_rfl) (by kernel_rfl) (by kernel_rfl) (fun _ _ _ h => h) (Or.inl ⟨by rfl, ?h5a⟩) (by assumption) ?r5a
      case h5a => intro w hSw; (try dsimp only at hSw); go_simp; (try with_reducible rfl)
      try simp only [Act.put, List.setIfInBounds_toArray, List.set_cons_zero, List.set_cons_succ]
      refine wpAnyS_take (i := 6) (oi := ⟨some 25, _, _, _, _, _⟩) (v := ?v6a) rfl (by kernel_rfl) (by kernel_rfl) (by kernel_rfl) (by kernel_rfl) (fun _ _ _ h => h) (Or.inl ⟨by rfl, ?h6a⟩) (by assumption) ?r6a
      case h6a => intro w hSw; (try dsimp only at hSw); go_simp; (try with_reducible rfl)
      try simp only [Act.put, List.setIfInBounds_toArray, List.set_cons_zero, List.set_cons_succ]
      refine wpAnyS_take (i := 7) (oi := ⟨some 26, _, _, _, _, _⟩) (v := ?v7a) rfl (by kernel_rfl) (by kernel_rfl) (by kernel_rfl) (by kernel_rfl) (fun _ _ _ h => h) (Or.inl ⟨by rfl, ?h7a⟩) (by assumption) ?r7a
      case h7a => intro w hSw; (try dsimp only at hSw); go_simp; (try with_reducible rfl)
      try simp only [Act.put, List.setIfInBounds_toArray, List.set_cons_zero, List.set_cons_succ]
      refine wpAnyS_take (i := 8) (oi := ⟨some 27, _, _, _, _, _⟩) (v := ?v8a) rfl (by kernel_rfl) (by kernel_rfl) (by kernel_rfl) (by kernel_rfl) (fun _ _ _ h => h) (Or.inl ⟨by rfl, ?h8a⟩) (by assumption) ?r8a
      case h8a => intro w hSw; (try dsimp only at hSw); go_simp; (try with_reducible rfl)
      try simp only [Act.put, List.setIfInBounds_toArray, List.set_cons_zero, List.set_cons_succ]
      refine wpAnyS_take (i := 9) (oi := ⟨some 28, _, _, _, _, _⟩) (v := ?v9a) rfl (by kernel_rfl) (by kernel_rfl) (by kernel_rfl) (by kernel_rfl) (fun _ _ _ h => h) (Or.inl ⟨by rfl, ?h9a⟩) (by assumption) ?r9a
      case h9a => intro w hSw; (try dsimp only at hSw); go_simp; (try with_reducible rfl)
      try simp only [Act.put, List.setIfInBounds_toArray, List.set_cons_zero, List.set_cons_succ]
      refine wpAnyS_take (i := 10) (oi := ⟨some 29, _, _, _, _, _⟩) (v := ?v10a) rfl (by kernel_rfl) (by kernel_rfl) (by kernel_rfl) (by kernel_rfl) (fun _ _ _ h => h) (Or.inl ⟨by rfl, ?h10a⟩) (by assumption) ?r10a
      case h10a => intro w hSw; (try dsimp only at hSw); go_simp; (try with_reducible rfl)
      try simp only [Act.put, List.setIfInBounds_toArray, List.set_cons_zero, List.set_cons_succ]
      refine wpAnyS_one (i := 11) (o := ⟨some 30, _, _, _, _, _⟩) rfl (by kernel_rfl) (fun K hK => ?_)
      go_simp
      refine hK.out _ _ (fun _ => by (try dsimp only); go_simp) ?_
      clear hK K
      try simp only [Act.put, List.setIfInBounds_toArray, List.set_cons_zero, List.set_cons_succ]
      refine wpAnyS_one (i := 12) (o := ⟨some 31, _, _, _, _, _⟩) rfl (by kernel_rfl) (fun K hK => ?_)
      refine wp_push _ _ _ 53 rfl 5 i0 (.int .u8 0) 1 1 Tryz.underlying53 HI rfl (by decide) _ _ _ _ rfl (h.own.alloc _) ⟨w.heap.size, 0, none⟩ 1 1 [b8 x] rfl rfl (cell_one_new _ _ _) (b8_one _) (hid (by have := HN.out; unfold maxLen; omega)) (hid (by have := HN.out; omega)) ?_; intro q1 c1 w1 hown1 hk1 hat1 hold1; clear hold1; obtain ⟨hx1, hx2, HX⟩ := Enw.push h hown1 (by repeat (first | exact Keeps.refl _ _ | refine Keeps.drew ?_ | refine Keeps.drewN ?_ _ | refine Keeps.alloc ?_ _ | refine Keeps.setCell ?_ (by simp; try omega) _ | exact Hid.out (by assumption) | refine Keeps.trans ?_ (by assumption))) hk1 hat1; have hx3 : w1.cell? ⟨e, 2, none⟩ = some (b8 cache) := (Blk.keeps (Blk.drew (h.blk.alloc _)) hk1 h.ne).cell 2; clear hown1 hk1 hat1
      refine hK.out _ _ (fun _ => by (try dsimp only); go_simp) ?_
      clear hK K
      try simp only [Act.put, List.setIfInBounds_toArray, List.set_cons_zero, List.set_cons_succ]
      refine wpAnyS_one (i := 13) (o := ⟨some 32, _, _, _, _, _⟩) rfl (by kernel_rfl) (fun K hK => ?_)
      go_simp
      refine hK.out _ _ (fun h => absurd h (by decide)) ?_
      clear hK K
      try simp only [Act.put, List.setIfInBounds_toArray, List.set_cons_zero, List.set_cons_succ]
      refine wpAnyS_one (i := 14) (o := ⟨some 33, _, _, _, _, _⟩) rfl (by kernel_rfl) (fun K hK => ?_)
      go_simp
      refine hK.out _ _ (fun h => absurd h (by decide)) ?_
      clear hK K
      try simp only [Act.put, List.setIfInBounds_toArray, List.set_cons_zero, List.set_cons_succ]
      refine wpAnyS_one (i := 15) (o := ⟨none, _, _, _, _, _⟩) rfl (by kernel_rfl) (fun K hK => ?_)
      go_simp
      refine hK.out _ _ (fun h => absurd h (by decide)) ?_
      clear hK K
      try simp only [Act.put, List.setIfInBounds_toArray, List.set_cons_zero, List.set_cons_succ]
      refine wpAnyS_done (by kernel_rfl) ?_ _
      clear hx1 hx2 hx3
      dsimp only at HX
      generalize w1.setCell ⟨e, 4, none⟩ (.slice q1 (out.length + 1) c1) = wA at HX ⊢
      have z3 := HX.out.1.blk.cell 3
      simp only [List.getElem?_toArray, List.getElem?_cons_succ, List.getElem?_cons_zero] at z3
      clear y0 y2 y3 y4 hfr hcn HS1 HS3
      go_wp2_with fail
      go_loopw [38] (fun s38 wr => ∃ j : Nat, j ≤ pend ∧ s38 = i6 j ∧ ∃ q2 c2, Enw wr e ⟨low, size, cache, pend, out ++ [x] ++ List.replicate j y⟩ q2 c2 ∧ Keeps (winF e q) w wr ∧ ∀ k, winF e q2 k → winF e q k ∨ w.heap.size ≤ k) (fun s38 _ => pend - (intOf s38).toNat)
      case atStart => exact ⟨0, Nat.zero_le _, rfl, q1, c1, by simpa using HX.out.1, HX.out.2⟩
      case round =>
        clear z3
        obtain ⟨j, hj, rfl, q2, c2, hE2, hK2, hG2⟩ := hrel
        by_cases hjp : j < pend
        · have d0 : decide ((j : Int) < (pend : Int)) = true := by simpa using hjp
          have z2 := hE2.blk.cell 4
          simp only [List.getElem?_toArray, List.getElem?_cons_succ, List.getElem?_cons_zero] at z2
          have HLn := hid (show (out ++ [x] ++ List.replicate j y).length = out.length + 1 + j by simp; omega)
          have hrep : out ++ [x] ++ List.replicate j y ++ [y] = out ++ [x] ++ List.replicate (j + 1) y := by rw [List.append_assoc _ _ [y], ← List.replicate_succ']
          have HRep := hid hrep
          generalize out ++ [x] ++ List.replicate j y = O at *
          have hel := hE2.blk.lt
          clear hrep
          go_wp2_with ((at_builtin; refine wpList_push _ rfl _ _ 53 rfl 5 i0 (.int .u8 0) 1 1 Tryz.underlying53 HI rfl (by decide) _ _ _ _ rfl (hE2.own.alloc _) ⟨wr.heap.size, 0, none⟩ 1 1 [b8 y] rfl rfl (cell_one_new _ _ _) (b8_one _) (hid (by have := HN.out; have := HLn.out; unfold maxLen; omega)) (hid (by have := HN.out; have := HLn.out; omega)) ?_; intro q3 c3 w3 hown3 hk3 hat3 _; obtain ⟨hx1, hx2, HX⟩ := Enw.push hE2 hown3 ((Keeps.refl (fun _ => False) wr).alloc _) hk3 hat3; clear hown3 hk3 hat3))
          clear HS2
          have hc := Keeps.chain hK2 hG2 HX.out.2.1 HX.out.2.2
          exact ⟨⟨j + 1, by omega, by go_num, q3, c3, by rw [← HRep.out]; exact HX.out.1, hc.1, hc.2⟩, by simp [intOf]; omega⟩
        · obtain rfl : j = pend := by omega
          have d0 : decide ((j : Int) < (j : Int)) = false := by simp
          have z0 := hE2.blk.cell 0
          have z3 := hE2.blk.cell 3
          have z2 := hE2.blk.cell 2
          simp only [List.getElem?_toArray, List.getElem?_cons_succ, List.getElem?_cons_zero] at z0 z2 z3
          have hel := hE2.blk.lt
          have hfz := hE2.blk.frozen
          have HE2 := hid hE2
          have HK2 := hid hK2
          have HG2 := hid hG2
          clear HS2 hjp hj hE2 hK2 hG2 hlt
          go_wp2_with fail
          go_end0
          exact enw_flush HE2.out HK2.out HG2.out (by omega) (by omega)
    · go_enter Tryz.func68, Tryz.ntmps68
      go_wp2_with fail
      refine wp_region_S (S := (fun W => W.cell? ⟨e, 4, none⟩ = some (.slice q out.length cap) ∧ W.cell? ⟨e, 2, none⟩ = some (b8 cache))) 13 (by kernel_rfl) (by (try dsimp only); go_simp) (fun hHeld => ?_)
      refine wpAnyS_take (i := 0) (oi := ⟨some 19, _, _, _, _, _⟩) (v := ?v0b) rfl (by kernel_rfl) (by kernel_rfl) (by kernel_rfl) (by kernel_rfl) (fun _ _ _ h => h) (Or.inl ⟨by rfl, ?h0b⟩) (by assumption) ?r0b
      case h0b => intro w hSw; (try dsimp only at hSw); go_simp; (try with_reducible rfl)
      try simp only [Act.put, List.setIfInBounds_toArray, List.set_cons_zero, List.set_cons_succ]
      refine wpAnyS_take (i := 1) (oi := ⟨some 20, _, _, _, _, _⟩) (v := ?v1b) rfl (by kernel_rfl) (by kernel_rfl) (by kernel_rfl) (by kernel_rfl) (fun _ _ _ h => h) (Or.inl ⟨by rfl, ?h1b⟩) (by assumption) ?r1b
      case h1b => intro w hSw; (try dsimp only at hSw); go_simp; (try with_reducible rfl)
      try simp only [Act.put, List.setIfInBounds_toArray, List.set_cons_zero, List.set_cons_succ]
      refine wpAnyS_take (i := 2) (oi := ⟨some 21, _, _, _, _, _⟩) (v := ?v2b) rfl (by kernel_rfl) (by kernel_rfl) (by kernel_rfl) (by kernel_rfl) (fun _ _ _ h => h) (Or.inl ⟨by rfl, ?h2b⟩) (by assumption) ?r2b
      case h2b => intro w hSw; (try dsimp only at hSw); go_simp; (try with_reducible rfl)
      try simp only [Act.put, List.setIfInBounds_toArray, List.set_cons_zero, List.set_cons_succ]
      refine wpAnyS_take (i := 3) (oi := ⟨some 22, _, _, _, _, _⟩) (v := ?v3b) rfl (by kernel_rfl) (by kernel_rfl) (by kernel_rfl) (by kernel_rfl) (fun _ _ _ h => h) (Or.inl ⟨by rfl, ?h3b⟩) (by assumption) ?r3b
      case h3b => intro w hSw; (try dsimp only at hSw); go_simp; (try with_reducible rfl)
      try simp only [Act.put, List.setIfInBounds_toArray, List.set_cons_zero, List.set_cons_succ]
      refine wpAnyS_take (i := 4) (oi := ⟨some 23, _, _, _, _, _⟩) (v := ?v4b) rfl (by kernel_rfl) (by kernel_rfl) (by kernel_rfl) (by kernel_rfl) (fun _ _ _ h => h) (Or.inl ⟨by rfl, ?h4b⟩) (by assumption) ?r4b
      case h4b => intro w hSw; (try dsimp only at hSw); go_simp; (try with_reducible rfl)
      try simp only [Act.put, List.setIfInBounds_toArray, List.set_cons_zero, List.set_cons_succ]
      refine wpAnyS_take (i := 5) (oi := ⟨some 24, _, _, _, _, _⟩) (v := ?v5b) rfl (by kernel_rfl) (by kernel_rfl) (by kernel_rfl) (by kernel_rfl) (fun _ _ _ h => h) (Or.inl ⟨by rfl, ?h5b⟩) (by assumption) ?r5b
      case h5b => intro w hSw; (try dsimp only at hSw); go_simp; (try with_reducible rfl)
      try simp only [Act.put, List.setIfInBounds_toArray, List.set_cons_zero, List.set_cons_succ]
      refine wpAnyS_take (i := 6) (oi := ⟨some 25, _, _, _, _, _⟩) (v := ?v6b) rfl (by kernel_rfl) (by kernel_rfl) (by kernel_rfl) (by kernel_rfl) (fun _ _ _ h => h) (Or.inl ⟨by rfl, ?h6b⟩) (by assumption) ?r6b
      case h6b => intro w hSw; (try dsimp only at hSw); go_simp; (try with_reducible rfl)
      try simp only [Act.put, List.setIfInBounds_toArray, List.set_cons_zero, List.set_cons_succ]
      refine wpAnyS_take (i := 7) (oi := ⟨some 26, _, _, _, _, _⟩) (v := ?v7b) rfl (by kernel_rfl) (by kernel_rfl) (by kernel_rfl) (by kernel_rfl) (fun _ _ _ h => h) (Or.inl ⟨by rfl, ?h7b⟩) (by assumption) ?r7b
      case h7b => intro w hSw; (try dsimp only at hSw); go_simp; (try with_reducible rfl)
      try simp only [Act.put, List.setIfInBounds_toArray, List.set_cons_zero, List.set_cons_succ]
      refine wpAnyS_take (i := 8) (oi := ⟨some 27, _, _, _, _, _⟩) (v := ?v8b) rfl (by kernel_rfl) (by kernel_rfl) (by kernel_rfl) (by kernel_rfl) (fun _ _ _ h => h) (Or.inl ⟨by rfl, ?h8b⟩) (by assumption) ?r8b
      case h8b => intro w hSw; (try dsimp only at hSw); go_simp; (try with_reducible rfl)
      try simp only [Act.put, List.setIfInBounds_toArray, List.set_cons_zero, List.set_cons_succ]
      refine wpAnyS_take (i := 9) (oi := ⟨some 28, _, _, _, _, _⟩) (v := ?v9b) rfl (by kernel_rfl) (by kernel_rfl) (by kernel_rfl) (by kernel_rfl) (fun _ _ _ h => h) (Or.inl ⟨by rfl, ?h9b⟩) (by assumption) ?r9b
      case h9b => intro w hSw; (try dsimp only at hSw); go_simp; (try with_reducible rfl)
      try simp only [Act.put, List.setIfInBounds_toArray, List.set_cons_zero, List.set_cons_succ]
      refine wpAnyS_take (i := 10) (oi := ⟨some 29, _, _, _, _, _⟩) (v := ?v10b) rfl (by kernel_rfl) (by kernel_rfl) (by kernel_rfl) (by kernel_rfl) (fun _ _ _ h => h) (Or.inl ⟨by rfl, ?h10b⟩) (by assumption) ?r10b
      case h10b => intro w hSw; (try dsimp only at hSw); go_simp; (try with_reducible rfl)
      try simp only [Act.put, List.setIfInBounds_toArray, List.set_cons_zero, List.set_cons_succ]
      refine wpAnyS_one (i := 11) (o := ⟨some 30, _, _, _, _, _⟩) rfl (by kernel_rfl) (fun K hK => ?_)
      go_simp
      refine hK.out _ _ (fun _ => by (try dsimp only); go_simp) ?_
      clear hK K
      try simp only [Act.put, List.setIfInBounds_toArray, List.set_cons_zero, List.set_cons_succ]
      refine wpAnyS_one (i := 12) (o := ⟨some 31, _, _, _, _, _⟩) rfl (by kernel_rfl) (fun K hK => ?_)
      refine wp_push _ _ _ 53 rfl 5 i0 (.int .u8 0) 1 1 Tryz.underlying53 HI rfl (by decide) _ _ _ _ rfl (h.own.alloc _) ⟨w.heap.size, 0, none⟩ 1 1 [b8 x] rfl rfl (cell_one_new _ _ _) (b8_one _) (hid (by have := HN.out; unfold maxLen; omega)) (hid (by have := HN.out; omega)) ?_; intro q1 c1 w1 hown1 hk1 hat1 hold1; clear hold1; obtain ⟨hx1, hx2, HX⟩ := Enw.push h hown1 (by repeat (first | exact Keeps.refl _ _ | refine Keeps.drew ?_ | refine Keeps.drewN ?_ _ | refine Keeps.alloc ?_ _ | refine Keeps.setCell ?_ (by simp; try omega) _ | exact Hid.out (by assumption) | refine Keeps.trans ?_ (by assumption))) hk1 hat1; have hx3 : w1.cell? ⟨e, 2, none⟩ = some (b8 cache) := (Blk.keeps (Blk.drew (h.blk.alloc _)) hk1 h.ne).cell 2; clear hown1 hk1 hat1
      refine hK.out _ _ (fun _ => by (try dsimp only); go_simp) ?_
      clear hK K
      try simp only [Act.put, List.setIfInBounds_toArray, List.set_cons_zero, List.set_cons_succ]
      refine wpAnyS_one (i := 13) (o := ⟨some 32, _, _, _, _, _⟩) rfl (by kernel_rfl) (fun K hK => ?_)
      go_simp
      refine hK.out _ _ (fun h => absurd h (by decide)) ?_
      clear hK K
      try simp only [Act.put, List.setIfInBounds_toArray, List.set_cons_zero, List.set_cons_succ]
      refine wpAnyS_one (i := 14) (o := ⟨some 33, _, _, _, _, _⟩) rfl (by kernel_rfl) (fun K hK => ?_)
      go_simp
      refine hK.out _ _ (fun h => absurd h (by decide)) ?_
      clear hK K
      try simp only [Act.put, List.setIfInBounds_toArray, List.set_cons_zero, List.set_cons_succ]
      refine wpAnyS_one (i := 15) (o := ⟨none, _, _, _, _, _⟩) rfl (by kernel_rfl) (fun K hK => ?_)
      go_simp
      refine hK.out _ _ (fun h => absurd h (by decide)) ?_
      clear hK K
      try simp only [Act.put, List.setIfInBounds_toArray, List.set_cons_zero, List.set_cons_succ]
      refine wpAnyS_done (by kernel_rfl) ?_ _
      clear hx1 hx2 hx3
      dsimp only at HX
      generalize w1.setCell ⟨e, 4, none⟩ (.slice q1 (out.length + 1) c1) = wA at HX ⊢
      have z3 := HX.out.1.blk.cell 3
      simp only [List.getElem?_toArray, List.getElem?_cons_succ, List.getElem?_cons_zero] at z3
      clear y0 y2 y3 y4 hfr hcn HS1 HS3
      go_wp2_with fail
      go_loopw [38] (fun s38 wr => ∃ j : Nat, j ≤ pend ∧ s38 = i6 j ∧ ∃ q2 c2, Enw wr e ⟨low, size, cache, pend, out ++ [x] ++ List.replicate j y⟩ q2 c2 ∧ Keeps (winF e q) w wr ∧ ∀ k, winF e q2 k → winF e q k ∨ w.heap.size ≤ k) (fun s38 _ => pend - (intOf s38).toNat)
      case atStart => exact ⟨0, Nat.zero_le _, rfl, q1, c1, by simpa using HX.out.1, HX.out.2⟩
      case round =>
        clear z3
        obtain ⟨j, hj, rfl, q2, c2, hE2, hK2, hG2⟩ := hrel
        by_cases hjp : j < pend
        · have d0 : decide ((j : Int) < (pend : Int)) = true := by simpa using hjp
          have z2 := hE2.blk.cell 4
          simp only [List.getElem?_toArray, List.getElem?_cons_succ, List.getElem?_cons_zero] at z2
          have HLn := hid (show (out ++ [x] ++ List.replicate j y).length = out.length + 1 + j by simp; omega)
          have hrep : out ++ [x] ++ List.replicate j y ++ [y] = out ++ [x] ++ List.replicate (j + 1) y := by rw [List.append_assoc _ _ [y], ← List.replicate_succ']
          have HRep := hid hrep
          generalize out ++ [x] ++ List.replicate j y = O at *
          have hel := hE2.blk.lt
          clear hrep
          go_wp2_with ((at_builtin; refine wpList_push _ rfl _ _ 53 rfl 5 i0 (.int .u8 0) 1 1 Tryz.underlying53 HI rfl (by decide) _ _ _ _ rfl (hE2.own.alloc _) ⟨wr.heap.size, 0, none⟩ 1 1 [b8 y] rfl rfl (cell_one_new _ _ _) (b8_one _) (hid (by have := HN.out; have := HLn.out; unfold maxLen; omega)) (hid (by have := HN.out; have := HLn.out; omega)) ?_; intro q3 c3 w3 hown3 hk3 hat3 _; obtain ⟨hx1, hx2, HX⟩ := Enw.push hE2 hown3 ((Keeps.refl (fun _ => False) wr).alloc _) hk3 hat3; clear hown3 hk3 hat3))
          clear HS2
          have hc := Keeps.chain hK2 hG2 HX.out.2.1 HX.out.2.2
          exact ⟨⟨j + 1, by omega, by go_num, q3, c3, by rw [← HRep.out]; exact HX.out.1, hc.1, hc.2⟩, by simp [intOf]; omega⟩
        · obtain rfl : j = pend := by omega
          have d0 : decide ((j : Int) < (j : Int)) = false := by simp
          have z0 := hE2.blk.cell 0
          have z3 := hE2.blk.cell 3
          have z2 := hE2.blk.cell 2
          simp only [List.getElem?_toArray, List.getElem?_cons_succ, List.getElem?_cons_zero] at z0 z2 z3
          have hel := hE2.blk.lt
          have hfz := hE2.blk.frozen
          have HE2 := hid hE2
          have HK2 := hid hK2
          have HG2 := hid hG2
          clear HS2 hjp hj hE2 hK2 hG2 hlt
          go_wp2_with fail
          go_end0
          exact enw_flush HE2.out HK2.out HG2.out (by omega) (by omega)
  · have hcs : 4278190080 ≤ low ∧ low < 4294967296 ∧ cy = 0 := by
      rcases carry_cases (e := ⟨low, size, cache, pend, out⟩) hl with ⟨a, b⟩ | ⟨a, b⟩
      · dsimp only at a
        unfold goes at hg
        rw [b] at hg
        simp at hg
        exact ⟨by omega, by omega, by rw [← hcy]; exact b⟩
      · unfold goes at hg
        rw [b] at hg
        simp at hg
    have hsh : shift ⟨low, size, cache, pend, out⟩ = ⟨low % 16777216 * 256, size, cache, pend + 1, out⟩ := by
      unfold shift
      rw [if_neg hg]
    rw [hsh]
    obtain ⟨a1, a2, rfl⟩ := hcs
    have g1 : (((0 : UInt8).toNat : Int) == 1) = false := by decide
    have g2 : ¬ ((low : Int) < 4278190080) := by omega
    have HB := hid h
    have hpd : pend ≤ 100000000000 := by omega
    have hcn' : (low : Int) / 4294967296 = 0 := hcn
    clear hg hsh hcy hcn y4
    go_enter Tryz.func68, Tryz.ntmps68
    go_wp2_with fail
    go_end0
    exact enw_pend HB.out (by omega) (by omega)
end Go.Proofs.YtalopgbkjgjppaaGreatDoor

/- The walks of rc's encoder: widen, Bit. What a coder is in memory. -/
namespace Go.Proofs.YtalopgbkjgjppaaGreatDoor
open Go.RowKit Go.Cas Go.Cas.Enc

theorem Enw.size {w : World} {e cap s : Nat} {E : Enc} {q : Option Addr} (h : Enw w e E q cap) : Enw (w.setCell ⟨e, 1, none⟩ (v32 s)) e { E with size := s } q cap := by
  refine h.set rfl ?_ (Keeps.setCell (Keeps.refl (fun b => b = e) w) (p := ⟨e, 1, none⟩) (fun _ => rfl) _)
  have hb := h.blk.set 1 (v32 s)
  simp only [List.setIfInBounds_toArray, List.set_cons_zero, List.set_cons_succ] at hb
  exact hb

theorem Enw.low {w : World} {e cap s : Nat} {E : Enc} {q : Option Addr} (h : Enw w e E q cap) : Enw (w.setCell ⟨e, 0, none⟩ (v64 s)) e { E with low := s } q cap := by
  refine h.set rfl ?_ (Keeps.setCell (Keeps.refl (fun b => b = e) w) (p := ⟨e, 0, none⟩) (fun _ => rfl) _)
  have hb := h.blk.set 0 (v64 s)
  simp only [List.setIfInBounds_toArray, List.set_cons_zero, List.set_cons_succ] at hb
  exact hb

set_option maxHeartbeats 4000000 in
set_option maxRecDepth 100000 in
theorem widen_any (e cap : Nat) (E : Enc) (q : Option Addr) (w : World) (h : Enw w e E q cap) (hm : Mid E) (hn : E.n ≤ 10000000000) :
    Calls Tryz.prog 141 #[.pointer (some ⟨e, 0, none⟩)] w fun z w' => EncLeft w w' z e (E.widen 4) q := by
  obtain ⟨R, hR⟩ : ∃ R, E.widen 4 = R := ⟨_, rfl⟩
  rw [hR]
  have hgo : 16777216 ≤ E.size * 256 ^ 4 := by have := hm.pos; omega
  go_enter Tryz.func141, Tryz.ntmps141
  go_wp2_with fail
  go_loopw [] (fun wr => ∃ f E1 q1 c1, Enw wr e E1 q1 c1 ∧ Mid E1 ∧ E1.widen f = R ∧ 16777216 ≤ E1.size * 256 ^ f ∧ E1.n + f ≤ E.n + 4 ∧ Keeps (winF e q) w wr ∧ ∀ k, winF e q1 k → winF e q k ∨ w.heap.size ≤ k) (fun wr => 4294967296 - (match wr.cell? ⟨e, 1, none⟩ with | some v => (intOf v).toNat | none => 0))
  case atStart => exact ⟨4, E, q, cap, h, hm, hR, hgo, Nat.le_refl _, Keeps.refl _ _, fun _ h => .inl h⟩
  case round =>
    clear hgo hR h hm
    obtain ⟨f, E1, q1, c1, hE, hmid, hfin, hsz, hcnt, hK, hG⟩ := hrel
    have y1 := hE.blk.cell 1
    simp only [List.getElem?_toArray, List.getElem?_cons_succ, List.getElem?_cons_zero] at y1
    have hfz := hE.blk.frozen 1
    by_cases hlt : E1.size < 16777216
    · obtain ⟨f', rfl⟩ : ∃ f', f = f' + 1 := ⟨f - 1, by cases f with | zero => simp at hsz; omega | succ f => rfl⟩
      unfold Enc.widen at hfin
      rw [if_pos hlt] at hfin
      have d0 : decide ((E1.size : Int) < 16777216) = true := by simp; omega
      have hsd := hid (shift_any e c1 E1.grow q1 (wr.setCell ⟨e, 1, none⟩ (v32 (E1.size * 256))) hE.size (show E1.low < 8589934592 from mid_low hmid) (by have e1 : E1.grow.out.length + E1.grow.pend = E1.n := rfl; omega))
      have hms := hid (mid_shift hmid hlt)
      have HS := hid (And.intro hfin (And.intro hsz (And.intro hcnt (And.intro hK hG))))
      have hlt' : (E1.size : Int) < 16777216 := by omega
      have HE := hid hE
      have hpos := hmid.pos
      have e256 : ((E1.size * 256 : Nat) : Int) = (E1.size : Int) * 256 := by omega
      unfold v32 at hsd
      rw [e256] at hsd
      have he : e < wr.heap.size := hE.blk.lt
      have y1' := hid y1
      clear hfin hsz hcnt hK hG hlt hE hmid e256
      go_wp2_with (go_at_call 68; refine hsd.out.mono ?_; rintro z w2 ⟨rfl, q2, c2, hE2, hK2, hG2⟩)
      obtain ⟨hfin, hsz, hcnt, hK, hG⟩ := HS.out
      have hsz2 : 16777216 ≤ E1.grow.shift.size * 256 ^ f' := by
        rw [shift_size]
        show _ ≤ E1.size * 256 * _
        rw [Nat.mul_assoc, ← Nat.pow_succ']
        exact hsz
      have hK3 : Keeps (winF e q1) wr (wr.setCell ⟨e, 1, none⟩ (.int .u32 ((E1.size : Int) * 256))) := Keeps.setCell (Keeps.refl _ wr) (p := ⟨e, 1, none⟩) (fun _ => .inl rfl) _
      have hch := Keeps.chain hK hG (hK3.trans hK2) (fun k hk => (hG2 k hk).imp_right fun h => by simpa using h)
      have z1 := hE2.blk.cell 1
      simp only [List.getElem?_toArray, List.getElem?_cons_succ, List.getElem?_cons_zero] at z1
      have hss : E1.grow.shift.size = E1.size * 256 := shift_size _
      have hnn : E1.grow.shift.n = E1.n + 1 := shift_n _
      refine ⟨⟨f', E1.grow.shift, q2, c2, hE2, hms.out, hfin, hsz2, by omega, hch.1, hch.2⟩, ?_⟩
      rw [z1, y1'.out, hss]
      simp [intOf]
      omega
    · have hfe : E1.widen f = E1 := by
        cases f with
        | zero => rfl
        | succ f => unfold Enc.widen; rw [if_neg hlt]
      rw [hfe] at hfin
      subst hfin
      have d0 : decide ((E1.size : Int) < 16777216) = false := by simp; omega
      clear hlt hfe hsz
      go_wp2_with fail
      go_end0
      exact ⟨rfl, q1, c1, hE, hK, hG⟩
end Go.Proofs.YtalopgbkjgjppaaGreatDoor

/- The walks of rc's encoder: Bit. What a coder is in memory. -/
namespace Go.Proofs.YtalopgbkjgjppaaGreatDoor
open Go.RowKit Go.Cas Go.Cas.Enc

/-- A decoder in memory. -/
abbrev Dcw (w : World) (x : Nat) (D : Dec) : Prop := Blk w x #[.string ⟨D.rest.toArray⟩, v32 D.code, v32 D.size, v32 D.part, .bool D.bad] 187

/-- A coder: an encoder or a decoder. -/
inductive Cdr where
  | enc (E : Enc)
  | dec (D : Dec)

structure DecOk (D : Dec) : Prop where
  ge : 16777216 ≤ D.size
  lt : D.size < 4294967296
  code : D.code < 4294967296

def Cdr.ok : Cdr → Prop
  | .enc E => Enc.Good E
  | .dec D => DecOk D
def Cdr.n : Cdr → Nat
  | .enc E => E.n
  | .dec _ => 0
def Cdr.bit : Cdr → Nat → Nat → Nat × Cdr
  | .enc E, p, h => (h, .enc (E.bit p h))
  | .dec D, p, _ => ((D.bit p).1, .dec (D.bit p).2)
def Cdr.half : Cdr → Nat → Nat × Cdr
  | .enc E, h => (h, .enc (E.half h))
  | .dec D, _ => ((Dec.half D).1, .dec (Dec.half D).2)

/-- A coder in memory, and its blocks. -/
def CM (x : Nat) : Cdr → (Nat → Prop) → World → Prop
  | .enc E, F, w => ∃ q cap, Enw w x E q cap ∧ F = winF x q
  | .dec D, F, w => Dcw w x D ∧ F = fun k => k = x

theorem CM.lt {x : Nat} {C : Cdr} {F : Nat → Prop} {w : World} (h : CM x C F w) : ∀ b, F b → b < w.heap.size := by
  cases C with
  | enc E => obtain ⟨q, cap, h, rfl⟩ := h; exact h.lt
  | dec D => obtain ⟨h, rfl⟩ := h; rintro b rfl; exact h.lt

theorem CM.keeps {x : Nat} {C : Cdr} {F S : Nat → Prop} {w w' : World} (h : CM x C F w) (k : Keeps S w w') (hn : ∀ b, F b → ¬ S b) : CM x C F w' := by
  cases C with
  | enc E => obtain ⟨q, cap, h, rfl⟩ := h; exact ⟨q, cap, h.keeps k hn, rfl⟩
  | dec D => obtain ⟨h, rfl⟩ := h; exact ⟨h.keeps k (hn _ rfl), rfl⟩

/-- What a step of a coder leaves: the coder; a block of probabilities; all else is as it was. -/
def StepLeft (w w' : World) (x : Nat) (C : Cdr) (F : Nat → Prop) (g : Nat) (cs : Array Value) (t : TypeId) : Prop :=
  ∃ F', CM x C F' w' ∧ Keeps (fun k => F k ∨ k = g) w w' ∧ (∀ k, F' k → F k ∨ w.heap.size ≤ k) ∧ Blk w' g cs t

theorem StepLeft.trans {w w' w'' : World} {x : Nat} {C' : Cdr} {F F' : Nat → Prop} {g : Nat} {cs' : Array Value} {t : TypeId}
    (hK : Keeps (fun k => F k ∨ k = g) w w') (hG : ∀ k, F' k → F k ∨ w.heap.size ≤ k) (h : StepLeft w' w'' x C' F' g cs' t) : StepLeft w w'' x C' F g cs' t := by
  obtain ⟨F2, h1, h2, h3, h4⟩ := h
  refine ⟨F2, h1, hK.trans' h2 ?_, fun k hk => ?_, h4⟩
  · rintro b hb (hf | rfl)
    · exact .inl ((hG b hf).resolve_right (by omega))
    · exact .inr rfl
  · rcases h3 k hk with h | h
    · exact hG k h
    · exact .inr (Nat.le_trans hK.size h)

def CodeLeft (w w' : World) (z : Ending) (v : Value) (x : Nat) (C : Cdr) (F : Nat → Prop) (g : Nat) (cs : Array Value) (t : TypeId) : Prop := z = .returned v ∧ StepLeft w w' x C F g cs t

theorem bit_end {w w0 W w' : World} {e : Nat} {E' : Enc} {q : Option Addr} {z : Ending} {g o : Nat} {cs : Array Value} {t : TypeId} {v : Value}
    (hk0 : Keeps (winF e q) w w0) (hB : Blk w g cs t) (hge : ¬ winF e q g) (hW : W = (w0.setCell ⟨g, o, none⟩ v).drew) (h : EncLeft W w' z e E' q) : CodeLeft w w' z (.tuple #[]) e (.enc E') (winF e q) g (cs.setIfInBounds o v) t := by
  obtain ⟨rfl, q', cap', hE, hK, hG⟩ := h
  subst hW
  have hk1 : Keeps (fun k => winF e q k ∨ k = g) w ((w0.setCell ⟨g, o, none⟩ v).drew) :=
    Keeps.drew (Keeps.setCell (hk0.mono fun b _ hb => .inl hb) (p := ⟨g, o, none⟩) (fun _ => .inr rfl) v)
  have hb1 : Blk ((w0.setCell ⟨g, o, none⟩ v).drew) g (cs.setIfInBounds o v) t := ((hB.keeps hk0 hge).set o v).drew
  refine ⟨rfl, winF e q', ⟨q', cap', hE, rfl⟩, hk1.trans' hK (fun b _ hb => .inl hb), fun k hk => ?_, hb1.keeps hK hge⟩
  rcases hG k hk with h | h
  · exact .inl h
  · exact .inr (Nat.le_trans hk1.size h)

set_option maxHeartbeats 4000000 in
set_option maxRecDepth 100000 in
theorem ebit_any (e cap : Nat) (E : Enc) (q : Option Addr) (g o p b : Nat) (cs : Array Value) (t : TypeId) (w : World) (h : Enw w e E q cap) (hg : Enc.Good E) (hn : E.n ≤ 1000000000)
    (hp : okPr p) (hb : b ≤ 1) (hB : Blk w g cs t) (hco : cs[o]? = some (v16 p)) (hge : ¬ winF e q g) :
    Calls Tryz.prog 136 #[.pointer (some ⟨e, 0, none⟩), .pointer (some ⟨g, o, none⟩), i6 b] w fun z w' => CodeLeft w w' z (.tuple #[]) e (.enc (E.bit p b)) (winF e q) g (cs.setIfInBounds o (v16 (learnP p b))) t := by
  obtain ⟨bn, hbn⟩ : ∃ bn, E.bound p = bn := ⟨_, rfl⟩
  obtain ⟨k1, k2⟩ := bound_ok hg hp
  rw [hbn] at k1 k2
  have hsz := hg.mid.size'
  have f1 : IntKind.u32.wrap ((E.size : Int) / 2048 * (p : Int)) = (bn : Int) := by
    rw [← hbn]
    unfold Enc.bound at hbn ⊢
    have e1 : ((E.size / 2048 * p : Nat) : Int) = (E.size : Int) / 2048 * (p : Int) := by push_cast; rfl
    rw [e1]
    have : (0 : Int) ≤ (E.size : Int) / 2048 * (p : Int) ∧ (E.size : Int) / 2048 * (p : Int) < 4294967296 := by rw [← e1, hbn]; omega
    simp [IntKind.wrap, IntKind.bits, IntKind.signed]
    omega
  have y0 := h.blk.cell 0
  have y1 := h.blk.cell 1
  simp only [List.getElem?_toArray, List.getElem?_cons_succ, List.getElem?_cons_zero] at y0 y1
  have hc : w.cell? ⟨g, o, none⟩ = some (v16 p) := (hB.cell o).trans hco
  have hfz0 := h.blk.frozen 0
  have hfz1 := h.blk.frozen 1
  have hfg := hB.frozen o
  have hne : ¬ g = e := fun e' => hge (.inl e')
  have hne' : ¬ e = g := fun e' => hne e'.symm
  have hlow := mid_low hg.mid
  have HL := hid (learn_any g o p)
  have hpp : p ≤ 2048 := by have := hp.2; omega
  rcases Nat.le_one_iff_eq_zero_or_eq_one.1 hb with rfl | rfl
  · have HW := hid (fun W hW => widen_any e cap (E.narrow 0 bn) q W hW (hg.mid.narrow k1 (by omega)) (show E.n ≤ _ by omega))
    have hbit : E.bit p 0 = (E.narrow 0 bn).widen 4 := by rw [bit_zero, hbn]
    rw [hbit]
    have HX := hid (And.intro h (And.intro hB (And.intro hge (And.intro hp hb))))
    clear hbit hbn hg h hB hge hp hb hn
    have HCO := hid hco
    clear hco
    go_enter Tryz.func136, Tryz.ntmps136
    go_wp2_with fail
    go_quiet (fail)
    go_wp2_with fail
    have hE0 : Enw ((w.drewN nq).setCell ⟨e, 1, none⟩ (.int .u32 (bn : Int))) e (E.narrow 0 bn) q cap := (HX.out.1.keeps (S := fun _ => False) ((Keeps.refl _ _).drewN nq) (fun _ _ h => h)).size
    have hk0 : Keeps (winF e q) w ((w.drewN nq).setCell ⟨e, 1, none⟩ (.int .u32 (bn : Int))) := Keeps.setCell ((Keeps.refl _ _).drewN nq) (p := ⟨e, 1, none⟩) (fun _ => .inl rfl) _
    have hBk := HX.out.2.1.keeps hk0 HX.out.2.2.1
    refine (HL.out 0 (by decide) HX.out.2.2.2.1 _ ((hBk.cell o).trans HCO.out) (hBk.frozen o)).mono ?_
    rintro z w2 ⟨rfl, rfl⟩
    clear hBk
    have hE1 := hid ((hE0.keeps (Keeps.setCell (Keeps.refl (fun k => k = g) _) (p := ⟨g, o, none⟩) (fun _ => rfl) (v16 (learnP p 0))) (fun b hb e' => HX.out.2.2.1 (e' ▸ hb))).keeps (S := fun _ => False) ((Keeps.refl _ _).drew) (fun _ _ h => h))
    have HK0 := hid hk0
    clear hE0 hk0
    go_wp2_with fail
    refine (HW.out _ hE1.out).mono ?_
    intro z w3 h3
    have h4 := hid (bit_end HK0.out HX.out.2.1 HX.out.2.2.1 rfl h3)
    obtain ⟨rfl, _⟩ := h3
    go_wp2_with fail
    go_end0
    exact h4.out
  · have HW := hid (fun W hW => widen_any e cap (E.narrow bn (E.size - bn)) q W hW (hg.mid.narrow (by omega) (by omega)) (show E.n ≤ _ by omega))
    have hbit : E.bit p 1 = (E.narrow bn (E.size - bn)).widen 4 := by rw [bit_one, hbn]
    rw [hbit]
    obtain ⟨lb, hlb⟩ : ∃ lb, E.low + bn = lb := ⟨_, rfl⟩
    obtain ⟨sb, hsb⟩ : ∃ sb, E.size - bn = sb := ⟨_, rfl⟩
    have c1 : (E.low : Int) + (bn : Int) = (lb : Int) := by omega
    have c2 : (E.size : Int) - (bn : Int) = (sb : Int) := by omega
    have k3 : lb < 8589934592 := by have := hg.mid.low; omega
    have k4 : sb < 4294967296 := by omega
    have hnar : E.narrow bn (E.size - bn) = ⟨lb, sb, E.cache, E.pend, E.out⟩ := by rw [← hlb, ← hsb]; rfl
    rw [hnar] at HW ⊢
    have HX := hid (And.intro h (And.intro hB (And.intro hge (And.intro hp hb))))
    clear hbit hbn hg h hB hge hp hb hn
    have HCO := hid hco
    clear hco
    go_enter Tryz.func136, Tryz.ntmps136
    go_wp2_with fail
    go_quiet (fail)
    go_wp2_with fail
    have hE0 : Enw (((w.drewN nq).setCell ⟨e, 0, none⟩ (v64 lb)).setCell ⟨e, 1, none⟩ (v32 sb)) e ⟨lb, sb, E.cache, E.pend, E.out⟩ q cap := ((HX.out.1.keeps (S := fun _ => False) ((Keeps.refl _ _).drewN nq) (fun _ _ h => h)).low (s := lb)).size (s := sb)
    have hk0 : Keeps (winF e q) w (((w.drewN nq).setCell ⟨e, 0, none⟩ (v64 lb)).setCell ⟨e, 1, none⟩ (v32 sb)) := Keeps.setCell (Keeps.setCell ((Keeps.refl _ _).drewN nq) (p := ⟨e, 0, none⟩) (fun _ => .inl rfl) _) (p := ⟨e, 1, none⟩) (fun _ => .inl rfl) _
    have hBk := HX.out.2.1.keeps hk0 HX.out.2.2.1
    refine (HL.out 1 (by decide) HX.out.2.2.2.1 _ ((hBk.cell o).trans HCO.out) (hBk.frozen o)).mono ?_
    rintro z w2 ⟨rfl, rfl⟩
    clear hBk
    have hE1 := hid ((hE0.keeps (Keeps.setCell (Keeps.refl (fun k => k = g) _) (p := ⟨g, o, none⟩) (fun _ => rfl) (v16 (learnP p 1))) (fun b hb e' => HX.out.2.2.1 (e' ▸ hb))).keeps (S := fun _ => False) ((Keeps.refl _ _).drew) (fun _ _ h => h))
    have HK0 := hid hk0
    clear hE0 hk0
    go_wp2_with fail
    refine (HW.out _ hE1.out).mono ?_
    intro z w3 h3
    have h4 := hid (bit_end HK0.out HX.out.2.1 HX.out.2.2.1 rfl h3)
    obtain ⟨rfl, _⟩ := h3
    go_wp2_with fail
    go_end0
    exact h4.out
end Go.Proofs.YtalopgbkjgjppaaGreatDoor
