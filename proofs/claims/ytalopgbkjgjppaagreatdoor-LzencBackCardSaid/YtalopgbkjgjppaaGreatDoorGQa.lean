/- Part of a proof: Qa, Qb, Qc, Qd. -/
import Derived.Test.YtalopgbkjgjppaaGreatDoorGAp
import Derived.Test.YtalopgbkjgjppaaGreatDoorGRd
import Derived.Lib.SmallJoins
import Derived.Deep.OwnRows
import Derived.Laws.IdiomStrings
/- The document's range coder, as far as a proof of safety wants it: add, widen, Learn. -/
namespace Go.Proofs.YtalopgbkjgjppaaGreatDoor
open Go.RowKit Go.Cas Go.Cas.Enc

theorem wr_u64' (n : Int) (h0 : 0 ≤ n) (h1 : n < 18446744073709551616) : IntKind.u64.wrap n = n := by simp [IntKind.wrap, IntKind.bits, IntKind.signed]; omega

/-- The document's encoder: so many bytes of Low; a range. -/
def E3 (w : World) (v : Value) (n sz : Nat) : Prop := ∃ (g cap : Nat) (bs : List UInt8), v = .agg #[.slice (some ⟨g, 0, none⟩) n cap, v64 sz] ∧ bs.length = n ∧ Bys w (some ⟨g, 0, none⟩) cap bs ∧ 0 < n

theorem E3.same {w w' : World} {v : Value} {n sz : Nat} (h : E3 w v n sz) (hs : Same w w') : E3 w' v n sz := by
  obtain ⟨g, cap, bs, h1, h2, h3, h4⟩ := h
  exact ⟨g, cap, bs, h1, h2, h3.same hs, h4⟩
theorem E3.keeps {S : Nat → Prop} {w w' : World} {v : Value} {n sz : Nat} (h : E3 w v n sz) (hs : Keeps S w w') (hS : ∀ g x y, v = .agg #[.slice (some ⟨g, 0, none⟩) x y, v64 sz] → ¬ S g) : E3 w' v n sz := by
  obtain ⟨g, cap, bs, h1, h2, h3, h4⟩ := h
  refine ⟨g, cap, bs, h1, h2, h3.keeps hs (fun b hb => ?_), h4⟩
  have : b = g := by simp [sblk] at hb; exact hb.symm
  subst this
  exact hS _ _ _ h1

set_option maxHeartbeats 2000000 in
set_option maxRecDepth 100000 in
theorem r3add_any (g cap : Nat) (bs : List UInt8) (x : Nat) (w : World) (h : Bys w (some ⟨g, 0, none⟩) cap bs) (h0 : 0 < bs.length) (hn : bs.length ≤ 1000000) (hx : x < 18446744073709551616) :
    Calls Tryz.prog 100 #[.slice (some ⟨g, 0, none⟩) bs.length cap, v64 x] w fun z w' => ∃ g' cap' bs', z = .returned (.slice (some ⟨g', 0, none⟩) bs.length cap') ∧ (bs' : List UInt8).length = bs.length ∧ Bys w' (some ⟨g', 0, none⟩) cap' bs' ∧ w.heap.size ≤ g' ∧ Same w w' := by
  obtain ⟨i0, HI⟩ := info_hid Tryz.infoB
  have hb8 : ∀ u ∈ bs.map b8, u.oneCell' = true := by
    intro u hu
    obtain ⟨x, _, rfl⟩ := List.mem_map.1 hu
    rfl
  have Hb8 := hid hb8
  clear hb8
  have hown := h.own
  obtain ⟨n, hnl⟩ : ∃ n, bs.length = n := ⟨_, rfl⟩
  have HL := hid hnl
  rw [hnl] at h0 hn hown ⊢
  clear hnl h
  go_enter Tryz.func100, Tryz.ntmps100
  go_wp2_with ((at_builtin; refine wpList_push _ rfl (.tmp 8) (.tmp 9) 53 rfl 5 i0 (.int .u8 0) 1 1 Tryz.underlying53 HI rfl (by decide) (some ⟨w.heap.size, 0, none⟩) 0 0 [] rfl (World.ownsRow_made w #[] 0 (Nat.zero_le _) (by decide) rfl) ⟨g, 0, none⟩ n cap (bs.map b8) rfl (by have := HL.out; simp; omega) (by intro j u hj; exact (hown.alloc (.cells #[] 5)).cells rfl j u hj) Hb8.out (hid (by unfold maxLen; omega)) (hid (by omega)) ?_; intro q1 c1 w1 hown1 hk1 hat1 _; have HP := hid (And.intro hown1 (And.intro hk1 hat1)); clear hown1 hk1 hat1))
  obtain ⟨hown1, hk1, hat1⟩ := HP.out
  rw [Nat.zero_add, List.nil_append] at hown1
  have hs1 : Same w w1 := by
    refine ((Keeps.refl (fun _ => False) w).alloc (.cells #[] 5)).trans' hk1 fun b hb e => ?_
    simp [sblk] at e
    omega
  have hB1 : Bys w1 q1 c1 bs := by
    refine ⟨?_⟩
    rw [HL.out]
    exact hown1
  obtain ⟨g1, rfl⟩ := hB1.ex (by have := HL.out; omega)
  have hg1 : w.heap.size ≤ g1 := by
    rcases hat1 g1 rfl with e | e
    · simp [sblk] at e; omega
    · rw [e]; simp
  have HB := hid (And.intro hB1 (And.intro hs1 hg1))
  clear hown1 hk1 hat1 hB1 hs1 hg1 HP hown
  have e0 : (0 : Int) + (n : Int) = (n : Int) := by omega
  have e1 : IntKind.i64.wrap ((n : Int) - 1) = (n : Int) - 1 := IntWalk.i64_in _ (by omega)
  have e2 : wrap64 (n : Int) = (n : Int) := IntWalk.wrap64_in _ (by omega)
  clear e0
  go_loopw [1, 6] (fun s1 s6 wr => ∃ (z : Int) (x' : Nat) (bs' : List UInt8), s6 = i6 z ∧ -1 ≤ z ∧ z < n ∧ s1 = v64 x' ∧ x' < 18446744073709551616 ∧ bs'.length = n ∧ Bys wr (some ⟨g1, 0, none⟩) c1 bs' ∧ Same w wr) (fun _ s6 _ => (intOf s6 + 1).toNat)
  case atStart => exact ⟨(n : Int) - 1, x, bs, by first | rfl | (congr 1) | go_num, by omega, by omega, rfl, hx, HL.out, HB.out.1, HB.out.2.1⟩
  case round =>
    clear hx
    obtain ⟨z, x', bs', rfl, hz1, hz2, rfl, hx, hlen, hB, hsm⟩ := hrel
    by_cases he : z = -1
    · subst he
      have d0 : decide ((-1 : Int) ≥ 0) = false := by decide
      have HX := hid (And.intro hlen (And.intro hB hsm))
      clear hB hlen hsm
      go_wp2_with fail
      go_ret
      exact ⟨g1, c1, bs', rfl, HX.out.1, HX.out.2.1, HB.out.2.2, HX.out.2.2⟩
    · obtain ⟨k, rfl⟩ : ∃ k : Nat, z = k := ⟨z.toNat, by omega⟩
      have hk : k < bs'.length := by omega
      have hc := bys_at hB k hk
      have hf := hB.own.frozenAt k
      generalize bs'[k] = y at hc
      have hyl := y.toNat_lt
      obtain ⟨r, hr⟩ : ∃ r, x' % 256 = r := ⟨_, rfl⟩
      obtain ⟨sm, hsm2⟩ : ∃ sm, y.toNat + r = sm := ⟨_, rfl⟩
      obtain ⟨lo, hlo⟩ : ∃ lo, sm % 256 = lo := ⟨_, rfl⟩
      obtain ⟨xn, hxn⟩ : ∃ xn, x' / 256 + sm / 256 = xn := ⟨_, rfl⟩
      have f1 : (x' : Int) % 256 = (r : Int) := by rw [← hr]; rfl
      have f2 : (y.toNat : Int) + (r : Int) = (sm : Int) := by omega
      have f3 : IntKind.u64.wrap (sm : Int) = (sm : Int) := wr_u64' _ (by omega) (by omega)
      have f4 : (sm : Int) % 256 = (lo : Int) := by rw [← hlo]; rfl
      have f5 : IntKind.u8.wrap (lo : Int) = (lo : Int) := wr_u8 _ (by omega) (by omega)
      have d0 : decide ((k : Int) ≥ 0) = true := by simp
      have d1 : decide ((0 : Int) ≤ (k : Int)) = true := by simp
      have hk0 : (0 : Int) ≤ (k : Int) := by omega
      have hk1 : (k : Int) < (n : Int) := by omega
      have HX := hid (And.intro hlen (And.intro hB (And.intro hsm (And.intro hr (And.intro hsm2 (And.intro hlo hxn))))))
      clear hB hlen hsm hr hsm2 hlo hxn hz1 hz2 he
      go_wp2_with fail
      obtain ⟨hlen, hB, hsm, hr, hsm2, hlo, hxn⟩ := HX.out
      have hv : Value.int .u8 (lo : Int) = b8 (UInt8.ofNat lo) := by
        show _ = Value.int .u8 ((UInt8.ofNat lo).toNat : Int)
        rw [UInt8.toNat_ofNat', Nat.mod_eq_of_lt (by omega)]
      refine ⟨⟨(k : Int) - 1, xn, bs'.set k (UInt8.ofNat lo), rfl, by omega, by omega, ?_, by omega, by rw [List.length_set]; exact hlen, ⟨?_⟩, ?_⟩, by simp [intOf]⟩
      · show Value.int .u64 _ = Value.int .u64 _
        congr 1
        rw [← hxn]; push_cast; rfl
      · rw [List.length_set, List.map_set, ← hv]
        exact (hB.own.stored k _).1
      · exact Keeps.setCell (p := ⟨g1, k, none⟩) hsm (fun h => by have := HB.out.2.2; have h' : g1 < w.heap.size := h; omega) _

/-- A bit, of whatever number. -/
def bitN (x : Int) : Nat := if x = 0 then 0 else 1
theorem r3learn_any (p : Nat) (b : Int) (w : World) (hp : okPr p) :
    Calls Tryz.prog 102 #[v64 p, i6 b] w fun z w' => z = .returned (v64 (learnP p (bitN b))) ∧ w' = w := by
  unfold okPr at hp
  by_cases h : b = 0
  · subst h
    have e : learnP p (bitN 0) = p + (2048 - p) / 32 := if_pos rfl
    obtain ⟨a, ha⟩ : ∃ a, 2048 - p = a := ⟨_, rfl⟩
    obtain ⟨c, hc⟩ : ∃ c, a / 32 = c := ⟨_, rfl⟩
    obtain ⟨d, hd⟩ : ∃ d, p + c = d := ⟨_, rfl⟩
    rw [e, ha, hc, hd]
    have f1 : (2048 : Int) - (p : Int) = (a : Int) := by omega
    have f2 : IntKind.u64.wrap (a : Int) = (a : Int) := wr_u64' _ (by omega) (by omega)
    have f3 : (a : Int) / 32 = (c : Int) := by rw [← hc]; rfl
    have f4 : (p : Int) + (c : Int) = (d : Int) := by omega
    have f5 : IntKind.u64.wrap (d : Int) = (d : Int) := wr_u64' _ (by omega) (by omega)
    clear hp e ha hc hd
    go_enter Tryz.func102, Tryz.ntmps102
    go_wp2_with fail
    go_ret
    exact ⟨rfl, rfl⟩
  · have e : learnP p (bitN b) = p - p / 32 := if_neg (by unfold bitN; rw [if_neg h]; decide)
    have t0 : (b == 0) = false := by simpa using h
    obtain ⟨c, hc⟩ : ∃ c, p / 32 = c := ⟨_, rfl⟩
    obtain ⟨d, hd⟩ : ∃ d, p - c = d := ⟨_, rfl⟩
    rw [e, hc, hd]
    have f3 : (p : Int) / 32 = (c : Int) := by rw [← hc]; rfl
    have f0 : IntKind.u64.wrap (c : Int) = (c : Int) := wr_u64' _ (by omega) (by omega)
    have f4 : (p : Int) - (c : Int) = (d : Int) := by omega
    have f5 : IntKind.u64.wrap (d : Int) = (d : Int) := wr_u64' _ (by omega) (by omega)
    clear hp e hc hd h
    go_enter Tryz.func102, Tryz.ntmps102
    go_wp2_with fail
    go_ret
    exact ⟨rfl, rfl⟩
end Go.Proofs.YtalopgbkjgjppaaGreatDoor

/- The document's range coder: widen, Bit, Direct, New, End. -/
namespace Go.Proofs.YtalopgbkjgjppaaGreatDoor
open Go.RowKit Go.Cas Go.Cas.Enc

theorem r3_grow {wq w1 w2 : World} {n1 c2 : Nat} {q1 q2 : Option Addr} {bs : List UInt8} (hlen : bs.length = n1) (hk1 : Keeps (sblk (some ⟨wq.heap.size, 0, none⟩)) (wq.alloc (.cells #[] 5)) w1)
    (hat1 : ∀ k, sblk q1 k → sblk (some ⟨wq.heap.size, 0, none⟩) k ∨ k = (wq.alloc (.cells #[] 5)).heap.size)
    (hown2 : w2.ownsRow 0 5 1 (.slice q2 (n1 + 1) c2) (n1 + 1) (bs.map b8 ++ [.int .u8 0])) (hk2 : Keeps (sblk q1) (w1.alloc (.cells #[.int .u8 0] 5)) w2) (hat2 : ∀ k, sblk q2 k → sblk q1 k ∨ k = (w1.alloc (.cells #[.int .u8 0] 5)).heap.size) :
    ∃ g2, q2 = some ⟨g2, 0, none⟩ ∧ Bys w2 (some ⟨g2, 0, none⟩) c2 (bs ++ [0]) ∧ Same wq w2 ∧ wq.heap.size ≤ g2 := by
  have z0 : (wq.alloc (.cells #[] 5)).heap.size = wq.heap.size + 1 := by simp
  have z1 : (w1.alloc (.cells #[.int .u8 0] 5)).heap.size = w1.heap.size + 1 := by simp
  have l1 := hk1.size
  have s1 : Same wq w1 := ((Keeps.refl (fun _ => False) wq).alloc _).trans' hk1 fun b hb e => by simp [sblk] at e; omega
  have hge1 : ∀ b, sblk q1 b → wq.heap.size ≤ b := fun b hb => by
    rcases hat1 b hb with e | e
    · simp [sblk] at e; omega
    · omega
  have s2 : Same wq w2 := (s1.alloc _).trans' hk2 fun b hb e => by have := hge1 b e; omega
  have hB : Bys w2 q2 c2 (bs ++ [0]) := by
    refine ⟨?_⟩
    rw [List.length_append, List.map_append, hlen]
    exact hown2
  obtain ⟨g2, rfl⟩ := hB.ex (by simp)
  refine ⟨g2, rfl, hB, s2, ?_⟩
  rcases hat2 g2 rfl with e | e
  · exact hge1 g2 e
  · omega

set_option maxHeartbeats 4000000 in
set_option maxRecDepth 100000 in
theorem r3widen_any (v : Value) (n sz : Nat) (w : World) (h : E3 w v n sz) (hn : n ≤ 900000) (h0 : 0 < sz) (h1 : sz < 4294967296) :
    Calls Tryz.prog 101 #[v] w fun z w' => ∃ v' n' sz', z = .returned v' ∧ E3 w' v' n' sz' ∧ n' ≤ n + 4 ∧ 16777216 ≤ sz' ∧ sz' < 4294967296 ∧ Same w w' := by
  obtain ⟨g, cap, bs, rfl, hlen, hB, hn0⟩ := h
  obtain ⟨i0, HI⟩ := info_hid Tryz.infoB
  have hsz : 16777216 ≤ sz * 256 ^ 4 := by omega
  go_enter Tryz.func101, Tryz.ntmps101
  go_wp2_with fail
  have hsa : Same w ((w.alloc (.cells #[.slice (some ⟨g, 0, none⟩) n cap, v64 sz] 56)).alloc (.cells #[.slice none 0 0, .int .u64 0] 56)) := ((Keeps.refl _ _).alloc _).alloc _
  have hbx : Blk ((w.alloc (.cells #[.slice (some ⟨g, 0, none⟩) n cap, v64 sz] 56)).alloc (.cells #[.slice none 0 0, .int .u64 0] 56)) w.heap.size #[.slice (some ⟨g, 0, none⟩) n cap, v64 sz] 56 := (Blk.new _ _ _).alloc _
  have hbr : Blk ((w.alloc (.cells #[.slice (some ⟨g, 0, none⟩) n cap, v64 sz] 56)).alloc (.cells #[.slice none 0 0, .int .u64 0] 56)) (w.heap.size + 1) #[.slice none 0 0, .int .u64 0] 56 := Blk.new_at (by simp)
  generalize (w.alloc (.cells #[.slice (some ⟨g, 0, none⟩) n cap, v64 sz] 56)).alloc (.cells #[.slice none 0 0, .int .u64 0] 56) = wa at hsa hbx hbr ⊢
  have hgw := hB.lt g rfl
  obtain ⟨x, hx⟩ : ∃ x, w.heap.size = x := ⟨_, rfl⟩
  have HB := hid hB
  have HN := hid (And.intro hlen (And.intro hn0 (And.intro hsz (And.intro h0 h1))))
  have HXE := hid hx
  rw [hx] at hbx hbr hgw ⊢
  have HS0 := hid (And.intro hsa (And.intro hbx hbr))
  clear hB hlen hn0 hsz h0 h1 hx hsa hbx hbr
  go_loopw [] (fun wr => ∃ f n1 sz1 g1 c1 bs1, Blk wr x #[.slice (some ⟨g1, 0, none⟩) n1 c1, v64 sz1] 56 ∧ Blk wr (x + 1) #[.slice none 0 0, .int .u64 0] 56 ∧ (bs1 : List UInt8).length = n1 ∧ Bys wr (some ⟨g1, 0, none⟩) c1 bs1 ∧ g1 ≠ x ∧ g1 ≠ x + 1 ∧ 0 < n1 ∧ n1 + f = n + 4 ∧ 0 < sz1 ∧ sz1 < 4294967296 ∧ 16777216 ≤ sz1 * 256 ^ f ∧ Same w wr) (fun wr => 4294967296 - (match wr.cell? ⟨x, 1, none⟩ with | some v => (intOf v).toNat | none => 0))
  case atStart => exact ⟨4, n, sz, g, cap, bs, HS0.out.2.1, HS0.out.2.2, HN.out.1, HB.out.same HS0.out.1, by omega, by omega, HN.out.2.1, rfl, HN.out.2.2.2.1, HN.out.2.2.2.2, HN.out.2.2.1, HS0.out.1⟩
  case round =>
    clear HS0
    obtain ⟨f, n1, sz1, g1, c1, bs1, hbx, hbr, hlen, hB, hne1, hne2, hn0, hnf, hs0, hs1, hsz, hsm⟩ := hrel
    have y0 := hbx.cell 0
    have y1 := hbx.cell 1
    simp only [List.getElem?_toArray, List.getElem?_cons_zero, List.getElem?_cons_succ] at y0 y1
    by_cases hlt : sz1 < 16777216
    · have d0 : decide ((sz1 : Int) < 16777216) = true := by simp; omega
      have d0' : decide (sz1 < 16777216) = true := by simpa using hlt
      obtain ⟨f', rfl⟩ : ∃ f', f = f' + 1 := ⟨f - 1, by cases f with | zero => simp at hsz; omega | succ f => rfl⟩
      obtain ⟨s2, hs2⟩ : ∃ s2, sz1 * 256 = s2 := ⟨_, rfl⟩
      have f1 : (sz1 : Int) * 256 = (s2 : Int) := by rw [← hs2]; push_cast; rfl
      have f2 : IntKind.u64.wrap (s2 : Int) = (s2 : Int) := wr_u64' _ (by omega) (by omega)
      have hz1 := hbx.frozen 1
      have HX := hid (And.intro hbx (And.intro hbr (And.intro hlen (And.intro hB (And.intro hsm (And.intro hs2 hsz))))))
      clear hbx hbr hlen hB hsm hs2 hsz
      go_upto_region 3 with fail
      have hK : Keeps (fun b => b = x) wr (wr.setCell ⟨x, 1, none⟩ (v64 s2)) := Keeps.setCell (p := ⟨x, 1, none⟩) (Keeps.refl (fun b => b = x) _) (fun _ => rfl) _
      have hbq : Blk (wr.setCell ⟨x, 1, none⟩ (v64 s2)) x #[.slice (some ⟨g1, 0, none⟩) n1 c1, v64 s2] 56 := by
        have := HX.out.1.set 1 (v64 s2)
        simpa using this
      have hq1 : (wr.setCell ⟨x, 1, none⟩ (v64 s2)).cell? ⟨x, 1, none⟩ = some (v64 s2) := hbq.cell 1
      generalize wr.setCell ⟨x, 1, none⟩ (v64 s2) = wq at hK hbq hq1 ⊢
      have hBq := HX.out.2.2.2.1.keeps hK (fun b hb e => hne1 (by simp [sblk] at hb; omega))
      have hbr2 := HX.out.2.1.keeps hK (by omega)
      have hsq : Same w wq := HX.out.2.2.2.2.1.trans' hK fun b hb e => by have := HXE.out; omega
      have hown := hBq.own
      have hxl := hbq.lt
      rw [HX.out.2.2.1] at hown
      have y0 := hbq.cell 0
      simp only [List.getElem?_toArray, List.getElem?_cons_zero] at y0
      have hb8 : ∀ u ∈ bs1.map b8, u.oneCell' = true := by
        intro u hu
        obtain ⟨x, _, rfl⟩ := List.mem_map.1 hu
        rfl
      have HQ := hid (And.intro hbq (And.intro hbr2 hsq))
      have Hb8 := hid hb8
      clear hK hbq hBq hbr2 hsq hb8
      go_wp2_with (first | (at_builtin; refine wpList_push _ rfl (.tmp 10) (.tmp 12) 53 rfl 5 i0 (.int .u8 0) 1 1 Tryz.underlying53 HI rfl (by decide) (some ⟨wq.heap.size, 0, none⟩) 0 0 [] rfl (World.ownsRow_made wq #[] 0 (Nat.zero_le _) (by decide) rfl) ⟨g1, 0, none⟩ n1 c1 (bs1.map b8) rfl (by have := HX.out.2.2.1; simp; omega) (by intro j u hj; exact (hown.alloc (.cells #[] 5)).cells rfl j u hj) Hb8.out (hid (by unfold maxLen; omega)) (hid (by omega)) ?_; intro q3 c3 w3 hown3 hk3 hat3 _; rw [Nat.zero_add, List.nil_append] at hown3; have HP3 := hid (And.intro hk3 hat3); clear hk3 hat3) | (at_builtin; refine wpList_push _ rfl (.tmp 13) (.tmp 14) 53 rfl 5 i0 (.int .u8 0) 1 1 Tryz.underlying53 HI rfl (by decide) q3 n1 c3 (bs1.map b8) (by first | rfl | simp) (hown3.alloc _) ⟨w3.heap.size, 0, none⟩ 1 1 [.int .u8 0] rfl rfl (cell_one_at rfl) (by intro u hu; simp at hu; subst hu; rfl) (hid (by unfold maxLen; omega)) (hid (by omega)) ?_; intro q4 c4 w4 hown4 hk4 hat4 _; obtain ⟨g4, rfl, hB4, hs4, hg4⟩ := r3_grow HX.out.2.2.1 HP3.out.1 HP3.out.2 hown4 hk4 hat4; clear hown4 hk4 hat4; have hb4 := HQ.out.1.keeps hs4 (fun h => h); have c4x := hb4.cell 0; have z4x := hb4.frozen 0; simp only [List.getElem?_toArray, List.getElem?_cons_zero] at c4x; have H4 := hid (And.intro hB4 (And.intro hs4 (And.intro hg4 hb4))); clear hB4 hs4 hg4 hb4))
      obtain ⟨hB4, hs4, hg4, hb4⟩ := H4.out
      have hb5 := hb4.set 0 (.slice (some ⟨g4, 0, none⟩) (n1 + 1 : Nat) c4)
      simp only [List.setIfInBounds_toArray, List.set_cons_zero, List.set_cons_succ] at hb5
      have hK5 : Keeps (fun b => b = x) w4 (w4.setCell ⟨x, 0, none⟩ (.slice (some ⟨g4, 0, none⟩) (n1 + 1 : Nat) c4)) := Keeps.setCell (p := ⟨x, 0, none⟩) (Keeps.refl (fun b => b = x) _) (fun _ => rfl) _
      have hbl4 := HQ.out.2.1.lt
      refine ⟨⟨f', n1 + 1, s2, g4, c4, bs1 ++ [0], hb5, (HQ.out.2.1.keeps hs4 (fun h => h)).keeps hK5 (by omega), by rw [List.length_append, HX.out.2.2.1]; rfl, hB4.keeps hK5 (fun b hb e => by simp [sblk] at hb; omega), by omega, by omega, by omega, by omega, by omega, by omega, ?_, (HQ.out.2.2.trans hs4).trans' hK5 fun b hb e => by have := HXE.out; omega⟩, ?_⟩
      · have := HX.out.2.2.2.2.2.2
        have e := HX.out.2.2.2.2.2.1
        rw [Nat.pow_succ] at this
        rw [← e, Nat.mul_assoc, Nat.mul_comm 256]
        exact this
      · have k5 := hb5.cell 1
        simp only [List.getElem?_toArray, List.getElem?_cons_zero, List.getElem?_cons_succ] at k5
        rw [k5, y1]
        show 4294967296 - ((s2 : Int)).toNat < 4294967296 - ((sz1 : Int)).toNat
        have := HX.out.2.2.2.2.2.1
        omega
    · have d0 : decide ((sz1 : Int) < 16777216) = false := by simp; omega
      have d0' : decide (sz1 < 16777216) = false := by simpa using hlt
      have r0 := hbr.frozen 0
      have r1 := hbr.frozen 1
      have q0 := hbr.cell 0
      have q1 := hbr.cell 1
      simp only [List.getElem?_toArray, List.getElem?_cons_zero, List.getElem?_cons_succ] at q0 q1
      have HX := hid (And.intro hbr (And.intro hlen (And.intro hB hsm)))
      clear hbx hbr hlen hB hsm
      go_wp2_with fail
      have hb2 := (HX.out.1.set 0 (.slice (some ⟨g1, 0, none⟩) n1 c1)).set 1 (v64 sz1)
      have hK2 : Keeps (fun b => b = x + 1) wr ((wr.setCell ⟨x + 1, 0, none⟩ (.slice (some ⟨g1, 0, none⟩) n1 c1)).setCell ⟨x + 1, 1, none⟩ (v64 sz1)) := Keeps.setCell (p := ⟨x + 1, 1, none⟩) (Keeps.setCell (p := ⟨x + 1, 0, none⟩) (Keeps.refl (fun b => b = x + 1) _) (fun _ => rfl) _) (fun _ => rfl) _
      simp only [List.setIfInBounds_toArray, List.set_cons_zero, List.set_cons_succ] at hb2
      have k0 := hb2.cell 0
      have k1 := hb2.cell 1
      simp only [List.getElem?_toArray, List.getElem?_cons_zero, List.getElem?_cons_succ] at k0 k1
      refine bodyPost_ret (v := .agg #[.slice (some ⟨g1, 0, none⟩) n1 c1, v64 sz1]) (by simp [results, Tryz.results101, go_sem, k0, k1]) rfl ?_
      refine ⟨_, n1, sz1, rfl, ⟨g1, c1, bs1, rfl, HX.out.2.1, HX.out.2.2.1.keeps hK2 (fun b hb e => by simp [sblk] at hb; omega), hn0⟩, by omega, by omega, hs1, HX.out.2.2.2.trans' hK2 fun b hb e => by have := HXE.out; omega⟩
end Go.Proofs.YtalopgbkjgjppaaGreatDoor

/- The document's range coder: New, Bit, Direct, End. -/
namespace Go.Proofs.YtalopgbkjgjppaaGreatDoor
open Go.RowKit Go.Cas Go.Cas.Enc

theorem bys_ne {w : World} {g cap b : Nat} {bs : List UInt8} {cs : Array Value} {t : TypeId} (h : Bys w (some ⟨g, 0, none⟩) cap bs) (hb : Blk w b cs t) (ht : t ≠ 5) : g ≠ b := by
  rintro rfl
  rcases h.own.2 with ⟨h1, _⟩ | ⟨g', c', cur, h1, _, hg, _⟩
  · simp at h1
  · simp at h1
    obtain ⟨rfl, rfl⟩ := h1
    unfold Blk at hb
    rw [hg] at hb
    injection hb with hb
    injection hb with _ e
    exact ht e.symm
theorem infoU8 : (Tryz.prog.info? 5).map (fun i => (i.zero, i.size, i.bytes)) = some (some (.int .u8 0), 1, 1) := by kernel_rfl

set_option maxHeartbeats 2000000 in
set_option maxRecDepth 100000 in
theorem r3new_any (w : World) : Calls Tryz.prog 21 #[] w fun z w' => ∃ v, z = .returned v ∧ E3 w' v 4 4294967295 ∧ Same w w' := by
  have hmd : madeCells #[Value.int .u8 0] 4 = #[.int .u8 0, .int .u8 0, .int .u8 0, .int .u8 0] := by kernel_rfl
  have hmk : ∀ w0, (Instr.makeSlice 53 (.int .i64 4) (.int .i64 4)).run Tryz.prog w0 = .ok (.slice (some ⟨w0.heap.size, 0, none⟩) 4 4) (w0.alloc (.cells #[.int .u8 0, .int .u8 0, .int .u8 0, .int .u8 0] 5)) := fun w0 => by
    have := run_make_row' (P := Tryz.prog) 53 5 (.int .u8 0) 1 Tryz.underlying53 infoU8 rfl .i64 .i64 4 (by decide) (by decide) w0
    rw [hmd] at this
    exact this
  go_enter Tryz.func21, Tryz.ntmps21
  go_wp2_with fail
  generalize hA : w.alloc (.cells #[.slice (some ⟨w.heap.size + 1, 0, none⟩) 4 4, .int .u64 4294967295] 56) = wa
  have hbA : Blk wa w.heap.size #[.slice (some ⟨w.heap.size + 1, 0, none⟩) 4 4, .int .u64 4294967295] 56 := by rw [← hA]; exact Blk.new _ _ _
  have hsA : Same w wa := by rw [← hA]; exact (Keeps.refl _ _).alloc _
  have hzA : wa.heap.size = w.heap.size + 1 := by rw [← hA]; simp
  have hb := hbA.alloc (.cells #[.int .u8 0, .int .u8 0, .int .u8 0, .int .u8 0] 5)
  have k0 := hb.cell 0
  have k1 := hb.cell 1
  simp only [List.getElem?_toArray, List.getElem?_cons_zero, List.getElem?_cons_succ] at k0 k1
  refine bodyPost_ret (v := .agg #[.slice (some ⟨w.heap.size + 1, 0, none⟩) 4 4, .int .u64 4294967295]) (by simp [results, Tryz.results21, go_sem, k0, k1]) rfl ?_
  refine ⟨_, rfl, ⟨w.heap.size + 1, 4, [0, 0, 0, 0], rfl, rfl, ⟨?_⟩, by decide⟩, hsA.alloc _⟩
  have := World.ownsRow_lit (base := 0) (e := 5) (size := 1) wa #[.int .u8 0, .int .u8 0, .int .u8 0, .int .u8 0] 4 (Nat.zero_le _) (by unfold maxLen; omega) rfl
  rw [hzA] at this
  exact this

set_option maxHeartbeats 4000000 in
set_option maxRecDepth 100000 in
theorem r3bit_any (v : Value) (n sz p : Nat) (b : Int) (w : World) (h : E3 w v n sz) (hn : n ≤ 900000) (h0 : 16777216 ≤ sz) (h1 : sz < 4294967296) (hp : okPr p) :
    Calls Tryz.prog 78 #[v, v64 p, i6 b] w fun z w' => ∃ v' n' sz', z = .returned (.tuple #[v', v64 (learnP p (bitN b))]) ∧ E3 w' v' n' sz' ∧ n' ≤ n + 4 ∧ 16777216 ≤ sz' ∧ sz' < 4294967296 ∧ Same w w' := by
  obtain ⟨g, cap, bs, rfl, hlen, hB, hn0⟩ := h
  have HWi := hid (fun (v : Value) (n sz : Nat) (w0 : World) (h : E3 w0 v n sz) (hn : n ≤ 900000) (h0 : 0 < sz) (h1 : sz < 4294967296) => r3widen_any v n sz w0 h hn h0 h1)
  have HLe := hid (fun w0 => r3learn_any p b w0 hp)
  have HAd := hid (fun (x : Nat) (w0 : World) (h : Bys w0 (some ⟨g, 0, none⟩) cap bs) (hx : x < 18446744073709551616) => r3add_any g cap bs x w0 h (by omega) (by omega) hx)
  rw [hlen] at HAd
  unfold okPr at hp
  obtain ⟨a, ha⟩ : ∃ a, sz / 2048 = a := ⟨_, rfl⟩
  obtain ⟨bd, hbd⟩ : ∃ bd, a * p = bd := ⟨_, rfl⟩
  have ha1 : 8192 ≤ a ∧ a * 2048 ≤ sz := by omega
  have hbd1 : 0 < bd ∧ bd < sz := by
    have e1 : a * 31 ≤ a * p := Nat.mul_le_mul_left _ hp.1
    have e2 : a * p ≤ a * 2017 := Nat.mul_le_mul_left _ hp.2
    omega
  have f1 : (sz : Int) / 2048 = (a : Int) := by rw [← ha]; rfl
  have f2 : (a : Int) * (p : Int) = (bd : Int) := by rw [← hbd]; push_cast; rfl
  have f3 : IntKind.u64.wrap (bd : Int) = (bd : Int) := wr_u64' _ (by omega) (by omega)
  have f4 : IntKind.u64.wrap (a : Int) = (a : Int) := wr_u64' _ (by omega) (by omega)
  obtain ⟨L, hL⟩ : ∃ L, learnP p (bitN b) = L := ⟨_, rfl⟩
  rw [hL] at HLe ⊢
  have HB := hid (And.intro hB (And.intro hlen hn0))
  have HZ := hid (And.intro hbd1 (And.intro h0 h1))
  clear hB hlen hn0 hp ha hbd ha1 hbd1 hL h0 h1
  go_enter Tryz.func78, Tryz.ntmps78
  go_upto_region 1 with fail
  have hsa : Same w ((w.alloc (.cells #[.slice (some ⟨g, 0, none⟩) n cap, v64 sz] 56)).alloc (.cells #[.slice none 0 0, .int .u64 0] 56)) := ((Keeps.refl _ _).alloc _).alloc _
  have hbx : Blk ((w.alloc (.cells #[.slice (some ⟨g, 0, none⟩) n cap, v64 sz] 56)).alloc (.cells #[.slice none 0 0, .int .u64 0] 56)) w.heap.size #[.slice (some ⟨g, 0, none⟩) n cap, v64 sz] 56 := (Blk.new _ _ _).alloc _
  have hbr : Blk ((w.alloc (.cells #[.slice (some ⟨g, 0, none⟩) n cap, v64 sz] 56)).alloc (.cells #[.slice none 0 0, .int .u64 0] 56)) (w.heap.size + 1) #[.slice none 0 0, .int .u64 0] 56 := Blk.new_at (by simp)
  generalize (w.alloc (.cells #[.slice (some ⟨g, 0, none⟩) n cap, v64 sz] 56)).alloc (.cells #[.slice none 0 0, .int .u64 0] 56) = wa at hsa hbx hbr ⊢
  have hgw := HB.out.1.lt g rfl
  obtain ⟨x, hx⟩ : ∃ x, w.heap.size = x := ⟨_, rfl⟩
  have HXE := hid hx
  rw [hx] at hbx hbr hgw ⊢
  have y0 := hbx.cell 0
  have y1 := hbx.cell 1
  have z0 := hbx.frozen 0
  have z1 := hbx.frozen 1
  simp only [List.getElem?_toArray, List.getElem?_cons_zero, List.getElem?_cons_succ] at y0 y1
  have HS0 := hid (And.intro hsa (And.intro hbx hbr))
  clear hx hsa hbx hbr
  by_cases hb0 : b = 0
  · subst hb0
    have HK := hid HZ.out
    go_upto_region 6 with fail
    have hbx' := HS0.out.2.1.set 1 (v64 bd)
    simp only [List.setIfInBounds_toArray, List.set_cons_zero, List.set_cons_succ] at hbx'
    have hK' : Keeps (fun b => b = x) wa (wa.setCell ⟨x, 1, none⟩ (v64 bd)) := Keeps.setCell (p := ⟨x, 1, none⟩) (Keeps.refl (fun b => b = x) _) (fun _ => rfl) _
    have HY := hid (And.intro hbx' (And.intro (HS0.out.2.2.keeps hK' (by omega)) (And.intro HB.out.2.1 (And.intro ((HB.out.1.same HS0.out.1).keeps hK' (fun b hb e => by simp [sblk] at hb; omega)) (And.intro HZ.out.1.1 (And.intro (show bd < 4294967296 by have := HZ.out; omega) (And.intro (HS0.out.1.trans' hK' fun b hb e => by have := HXE.out; omega) HZ.out)))))))
    clear hbx' hK' y0 y1 z0 z1
    generalize wa.setCell ⟨x, 1, none⟩ (v64 bd) = wy at HY ⊢
    obtain ⟨g1, rfl⟩ : ∃ g1, g1 = g := ⟨_, rfl⟩
    obtain ⟨c1, rfl⟩ : ∃ c1, c1 = cap := ⟨_, rfl⟩
    obtain ⟨bs1, rfl⟩ : ∃ bs1, bs1 = bs := ⟨_, rfl⟩
    obtain ⟨s1, rfl⟩ : ∃ s1, s1 = bd := ⟨_, rfl⟩
    have hbx1 := HY.out.1
    have w0_ := hbx1.cell 0
    have w1_ := hbx1.cell 1
    simp only [List.getElem?_toArray, List.getElem?_cons_zero, List.getElem?_cons_succ] at w0_ w1_
    have HE := hid (show E3 wy (.agg #[.slice (some ⟨g1, 0, none⟩) n c1, v64 s1]) n s1 from ⟨g1, c1, bs1, rfl, HY.out.2.2.1, HY.out.2.2.2.1, HB.out.2.2⟩)
    clear hbx1
    go_wp2_with fail
    refine (HWi.out _ n s1 wy HE.out hn HY.out.2.2.2.2.1 HY.out.2.2.2.2.2.1).mono ?_
    rintro z w3 ⟨v3, n3, s3, rfl, hE3, hn3, hs3a, hs3b, hs3⟩
    have hbr3 := HY.out.2.1.keeps hs3 (fun h => h)
    have r0 := hbr3.frozen 0
    have r1 := hbr3.frozen 1
    have u0 := hbr3.cell 0
    have u1 := hbr3.cell 1
    simp only [List.getElem?_toArray, List.getElem?_cons_zero, List.getElem?_cons_succ] at u0 u1
    obtain ⟨g3, c3, bs3, rfl, hl3, hB3, hn3'⟩ := hE3
    have H3 := hid (And.intro hbr3 (And.intro hl3 (And.intro hB3 (And.intro hn3' (And.intro (HY.out.2.2.2.2.2.2.1.trans hs3) hn3)))))
    clear hbr3 hl3 hB3 hn3' hs3 hn3
    go_wp2_with (go_at_call 102; refine (HLe.out _).mono ?_; rintro z w4 ⟨rfl, rfl⟩)
    have hb2 := (H3.out.1.set 0 (.slice (some ⟨g3, 0, none⟩) n3 c3)).set 1 (v64 s3)
    have hK2 : Keeps (fun b => b = x + 1) w4 ((w4.setCell ⟨x + 1, 0, none⟩ (.slice (some ⟨g3, 0, none⟩) n3 c3)).setCell ⟨x + 1, 1, none⟩ (v64 s3)) := Keeps.setCell (p := ⟨x + 1, 1, none⟩) (Keeps.setCell (p := ⟨x + 1, 0, none⟩) (Keeps.refl (fun b => b = x + 1) _) (fun _ => rfl) _) (fun _ => rfl) _
    simp only [List.setIfInBounds_toArray, List.set_cons_zero, List.set_cons_succ] at hb2
    have k0 := hb2.cell 0
    have k1 := hb2.cell 1
    simp only [List.getElem?_toArray, List.getElem?_cons_zero, List.getElem?_cons_succ] at k0 k1
    have hne3 : g3 ≠ x + 1 := bys_ne H3.out.2.2.1 H3.out.1 (by decide)
    refine bodyPost_ret (v := .tuple #[.agg #[.slice (some ⟨g3, 0, none⟩) n3 c3, v64 s3], v64 L]) (by simp [results, Tryz.results78, go_sem, k0, k1]) rfl ?_
    exact ⟨_, n3, s3, rfl, ⟨g3, c3, bs3, rfl, H3.out.2.1, H3.out.2.2.1.keeps hK2 (fun b hb e => by simp [sblk] at hb; omega), H3.out.2.2.2.1⟩, H3.out.2.2.2.2.2, hs3a, hs3b, H3.out.2.2.2.2.1.trans' hK2 fun b hb e => by have := HXE.out; omega⟩
  · have t0 : (b == 0) = false := by simpa using hb0
    obtain ⟨sd, hsd⟩ : ∃ sd, sz - bd = sd := ⟨_, rfl⟩
    have f5 : (sz : Int) - (bd : Int) = (sd : Int) := by have := HZ.out; omega
    have f6 : IntKind.u64.wrap (sd : Int) = (sd : Int) := wr_u64' _ (by omega) (by have := HZ.out; omega)
    have HSD := hid hsd
    clear hsd
    go_wp2_with fail
    refine (HAd.out bd wa (HB.out.1.same HS0.out.1) (by have := HZ.out; omega)).mono ?_
    rintro z w2 ⟨g1, c1, bs1, rfl, hl1, hB1, hg1, hs1⟩
    have hbx1 := HS0.out.2.1.keeps hs1 (fun h => h)
    have y0 := hbx1.cell 0
    have y1 := hbx1.cell 1
    have z0 := hbx1.frozen 0
    have z1 := hbx1.frozen 1
    simp only [List.getElem?_toArray, List.getElem?_cons_zero, List.getElem?_cons_succ] at y0 y1
    have hxl2 := hbx1.lt
    have H2 := hid (And.intro hbx1 (And.intro (HS0.out.2.2.keeps hs1 (fun h => h)) (And.intro hl1 (And.intro hB1 (HS0.out.1.trans hs1)))))
    clear hbx1 hl1 hB1 hs1
    go_upto_region 6 with fail
    have hbx' := (H2.out.1.set 0 (.slice (some ⟨g1, 0, none⟩) n c1)).set 1 (v64 sd)
    simp only [List.setIfInBounds_toArray, List.set_cons_zero, List.set_cons_succ] at hbx'
    have hK' : Keeps (fun b => b = x) w2 ((w2.setCell ⟨x, 0, none⟩ (.slice (some ⟨g1, 0, none⟩) n c1)).setCell ⟨x, 1, none⟩ (v64 sd)) := Keeps.setCell (p := ⟨x, 1, none⟩) (Keeps.setCell (p := ⟨x, 0, none⟩) (Keeps.refl (fun b => b = x) _) (fun _ => rfl) _) (fun _ => rfl) _
    have hgx : g1 ≠ x := bys_ne H2.out.2.2.2.1 H2.out.1 (by decide)
    have HY := hid (And.intro hbx' (And.intro (H2.out.2.1.keeps hK' (by omega)) (And.intro H2.out.2.2.1 (And.intro (H2.out.2.2.2.1.keeps hK' (fun b hb e => by simp [sblk] at hb; omega)) (And.intro (show 0 < sd by have := HZ.out; have := HSD.out; omega) (And.intro (show sd < 4294967296 by have := HZ.out; have := HSD.out; omega) (And.intro (H2.out.2.2.2.2.trans' hK' fun b hb e => by have := HXE.out; omega) HZ.out)))))))
    clear hbx' hK' y0 y1 z0 z1 hgx hxl2
    generalize (w2.setCell ⟨x, 0, none⟩ (.slice (some ⟨g1, 0, none⟩) n c1)).setCell ⟨x, 1, none⟩ (v64 sd) = wy at HY ⊢
    obtain ⟨s1, rfl⟩ : ∃ s1, s1 = sd := ⟨_, rfl⟩
    have hbx1 := HY.out.1
    have w0_ := hbx1.cell 0
    have w1_ := hbx1.cell 1
    simp only [List.getElem?_toArray, List.getElem?_cons_zero, List.getElem?_cons_succ] at w0_ w1_
    have HE := hid (show E3 wy (.agg #[.slice (some ⟨g1, 0, none⟩) n c1, v64 s1]) n s1 from ⟨g1, c1, bs1, rfl, HY.out.2.2.1, HY.out.2.2.2.1, HB.out.2.2⟩)
    clear hbx1
    go_wp2_with fail
    refine (HWi.out _ n s1 wy HE.out hn HY.out.2.2.2.2.1 HY.out.2.2.2.2.2.1).mono ?_
    rintro z w3 ⟨v3, n3, s3, rfl, hE3, hn3, hs3a, hs3b, hs3⟩
    have hbr3 := HY.out.2.1.keeps hs3 (fun h => h)
    have r0 := hbr3.frozen 0
    have r1 := hbr3.frozen 1
    have u0 := hbr3.cell 0
    have u1 := hbr3.cell 1
    simp only [List.getElem?_toArray, List.getElem?_cons_zero, List.getElem?_cons_succ] at u0 u1
    obtain ⟨g3, c3, bs3, rfl, hl3, hB3, hn3'⟩ := hE3
    have H3 := hid (And.intro hbr3 (And.intro hl3 (And.intro hB3 (And.intro hn3' (And.intro (HY.out.2.2.2.2.2.2.1.trans hs3) hn3)))))
    clear hbr3 hl3 hB3 hn3' hs3 hn3
    go_wp2_with (go_at_call 102; refine (HLe.out _).mono ?_; rintro z w4 ⟨rfl, rfl⟩)
    have hb2 := (H3.out.1.set 0 (.slice (some ⟨g3, 0, none⟩) n3 c3)).set 1 (v64 s3)
    have hK2 : Keeps (fun b => b = x + 1) w4 ((w4.setCell ⟨x + 1, 0, none⟩ (.slice (some ⟨g3, 0, none⟩) n3 c3)).setCell ⟨x + 1, 1, none⟩ (v64 s3)) := Keeps.setCell (p := ⟨x + 1, 1, none⟩) (Keeps.setCell (p := ⟨x + 1, 0, none⟩) (Keeps.refl (fun b => b = x + 1) _) (fun _ => rfl) _) (fun _ => rfl) _
    simp only [List.setIfInBounds_toArray, List.set_cons_zero, List.set_cons_succ] at hb2
    have k0 := hb2.cell 0
    have k1 := hb2.cell 1
    simp only [List.getElem?_toArray, List.getElem?_cons_zero, List.getElem?_cons_succ] at k0 k1
    have hne3 : g3 ≠ x + 1 := bys_ne H3.out.2.2.1 H3.out.1 (by decide)
    refine bodyPost_ret (v := .tuple #[.agg #[.slice (some ⟨g3, 0, none⟩) n3 c3, v64 s3], v64 L]) (by simp [results, Tryz.results78, go_sem, k0, k1]) rfl ?_
    exact ⟨_, n3, s3, rfl, ⟨g3, c3, bs3, rfl, H3.out.2.1, H3.out.2.2.1.keeps hK2 (fun b hb e => by simp [sblk] at hb; omega), H3.out.2.2.2.1⟩, H3.out.2.2.2.2.2, hs3a, hs3b, H3.out.2.2.2.2.1.trans' hK2 fun b hb e => by have := HXE.out; omega⟩
end Go.Proofs.YtalopgbkjgjppaaGreatDoor

/- The document's range coder: Direct, End. -/
namespace Go.Proofs.YtalopgbkjgjppaaGreatDoor
open Go.RowKit Go.Cas Go.Cas.Enc

set_option maxHeartbeats 4000000 in
set_option maxRecDepth 100000 in
theorem r3direct_any (v : Value) (n sz : Nat) (b : Int) (w : World) (h : E3 w v n sz) (hn : n ≤ 900000) (h0 : 16777216 ≤ sz) (h1 : sz < 4294967296) :
    Calls Tryz.prog 83 #[v, i6 b] w fun z w' => ∃ v' n' sz', z = .returned v' ∧ E3 w' v' n' sz' ∧ n' ≤ n + 4 ∧ 16777216 ≤ sz' ∧ sz' < 4294967296 ∧ Same w w' := by
  obtain ⟨g, cap, bs, rfl, hlen, hB, hn0⟩ := h
  have HWi := hid (fun (v : Value) (n sz : Nat) (w0 : World) (h : E3 w0 v n sz) (hn : n ≤ 900000) (h0 : 0 < sz) (h1 : sz < 4294967296) => r3widen_any v n sz w0 h hn h0 h1)
  have HAd := hid (fun (x : Nat) (w0 : World) (h : Bys w0 (some ⟨g, 0, none⟩) cap bs) (hx : x < 18446744073709551616) => r3add_any g cap bs x w0 h (by omega) (by omega) hx)
  rw [hlen] at HAd
  obtain ⟨a, ha⟩ : ∃ a, sz / 2 = a := ⟨_, rfl⟩
  have ha1 : 0 < a ∧ a < 4294967296 := by omega
  have f1 : (sz : Int) / 2 = (a : Int) := by rw [← ha]; rfl
  have f4 : IntKind.u64.wrap (a : Int) = (a : Int) := wr_u64' _ (by omega) (by omega)
  have HB := hid (And.intro hB (And.intro hlen hn0))
  have HZ := hid ha1
  clear hB hlen hn0 ha ha1 h0 h1
  go_enter Tryz.func83, Tryz.ntmps83
  go_upto_region 1 with fail
  have hsa : Same w ((w.alloc (.cells #[.slice (some ⟨g, 0, none⟩) n cap, v64 sz] 56)).alloc (.cells #[.slice none 0 0, .int .u64 0] 56)) := ((Keeps.refl _ _).alloc _).alloc _
  have hbx : Blk ((w.alloc (.cells #[.slice (some ⟨g, 0, none⟩) n cap, v64 sz] 56)).alloc (.cells #[.slice none 0 0, .int .u64 0] 56)) w.heap.size #[.slice (some ⟨g, 0, none⟩) n cap, v64 sz] 56 := (Blk.new _ _ _).alloc _
  have hbr : Blk ((w.alloc (.cells #[.slice (some ⟨g, 0, none⟩) n cap, v64 sz] 56)).alloc (.cells #[.slice none 0 0, .int .u64 0] 56)) (w.heap.size + 1) #[.slice none 0 0, .int .u64 0] 56 := Blk.new_at (by simp)
  generalize (w.alloc (.cells #[.slice (some ⟨g, 0, none⟩) n cap, v64 sz] 56)).alloc (.cells #[.slice none 0 0, .int .u64 0] 56) = wa at hsa hbx hbr ⊢
  have hgw := HB.out.1.lt g rfl
  obtain ⟨x, hx⟩ : ∃ x, w.heap.size = x := ⟨_, rfl⟩
  have HXE := hid hx
  rw [hx] at hbx hbr hgw ⊢
  have y0 := hbx.cell 0
  have y1 := hbx.cell 1
  have z0 := hbx.frozen 0
  have z1 := hbx.frozen 1
  simp only [List.getElem?_toArray, List.getElem?_cons_zero, List.getElem?_cons_succ] at y0 y1
  have HS0 := hid (And.intro hsa (And.intro hbx hbr))
  clear hx hsa hbx hbr
  go_upto_region 2 with fail
  have hbx0 := HS0.out.2.1.set 1 (v64 a)
  simp only [List.setIfInBounds_toArray, List.set_cons_zero, List.set_cons_succ] at hbx0
  have hK0 : Keeps (fun b => b = x) wa (wa.setCell ⟨x, 1, none⟩ (v64 a)) := Keeps.setCell (p := ⟨x, 1, none⟩) (Keeps.refl (fun b => b = x) _) (fun _ => rfl) _
  have HS := hid (And.intro (HS0.out.1.trans' hK0 fun b hb e => by have := HXE.out; omega) (And.intro hbx0 (And.intro (HS0.out.2.2.keeps hK0 (by omega)) ((HB.out.1.same HS0.out.1).keeps hK0 (fun b hb e => by simp [sblk] at hb; omega)))))
  clear hbx0 hK0 y0 y1 z0 z1
  generalize wa.setCell ⟨x, 1, none⟩ (v64 a) = wb at HS ⊢
  have y0 := HS.out.2.1.cell 0
  have y1 := HS.out.2.1.cell 1
  have z0 := HS.out.2.1.frozen 0
  simp only [List.getElem?_toArray, List.getElem?_cons_zero, List.getElem?_cons_succ] at y0 y1
  by_cases hb1 : b = 1
  · subst hb1
    go_wp2_with fail
    refine (HAd.out a wb HS.out.2.2.2 (by have := HZ.out; omega)).mono ?_
    rintro z w2 ⟨g1, c1, bs1, rfl, hl1, hB1, hg1, hs1⟩
    have hbx1 := HS.out.2.1.keeps hs1 (fun h => h)
    have y0 := hbx1.cell 0
    have y1 := hbx1.cell 1
    have z0 := hbx1.frozen 0
    simp only [List.getElem?_toArray, List.getElem?_cons_zero, List.getElem?_cons_succ] at y0 y1
    have hxl2 := hbx1.lt
    have H2 := hid (And.intro hbx1 (And.intro (HS.out.2.2.1.keeps hs1 (fun h => h)) (And.intro hl1 (And.intro hB1 (HS.out.1.trans hs1)))))
    clear hbx1 hl1 hB1 hs1
    go_upto_region 4 with fail
    have hbx' := (H2.out.1.set 0 (.slice (some ⟨g1, 0, none⟩) n c1))
    simp only [List.setIfInBounds_toArray, List.set_cons_zero, List.set_cons_succ] at hbx'
    have hK' : Keeps (fun b => b = x) w2 (w2.setCell ⟨x, 0, none⟩ (.slice (some ⟨g1, 0, none⟩) n c1)) := Keeps.setCell (p := ⟨x, 0, none⟩) (Keeps.refl (fun b => b = x) _) (fun _ => rfl) _
    have hgx : g1 ≠ x := bys_ne H2.out.2.2.2.1 H2.out.1 (by decide)
    have HY := hid (And.intro hbx' (And.intro (H2.out.2.1.keeps hK' (by omega)) (And.intro H2.out.2.2.1 (And.intro (H2.out.2.2.2.1.keeps hK' (fun b hb e => by simp [sblk] at hb; omega)) (And.intro HZ.out.1 (And.intro HZ.out.2 (And.intro (H2.out.2.2.2.2.trans' hK' fun b hb e => by have := HXE.out; omega) HZ.out)))))))
    clear hbx' hK' y0 y1 z0 hgx hxl2
    generalize w2.setCell ⟨x, 0, none⟩ (.slice (some ⟨g1, 0, none⟩) n c1) = wy at HY ⊢
    obtain ⟨s1, rfl⟩ : ∃ s1, s1 = a := ⟨_, rfl⟩
    have hbx1 := HY.out.1
    have w0_ := hbx1.cell 0
    have w1_ := hbx1.cell 1
    simp only [List.getElem?_toArray, List.getElem?_cons_zero, List.getElem?_cons_succ] at w0_ w1_
    have HE := hid (show E3 wy (.agg #[.slice (some ⟨g1, 0, none⟩) n c1, v64 s1]) n s1 from ⟨g1, c1, bs1, rfl, HY.out.2.2.1, HY.out.2.2.2.1, HB.out.2.2⟩)
    clear hbx1
    go_wp2_with fail
    refine (HWi.out _ n s1 wy HE.out hn HY.out.2.2.2.2.1 HY.out.2.2.2.2.2.1).mono ?_
    rintro z w3 ⟨v3, n3, s3, rfl, hE3, hn3, hs3a, hs3b, hs3⟩
    have hbr3 := HY.out.2.1.keeps hs3 (fun h => h)
    have r0 := hbr3.frozen 0
    have r1 := hbr3.frozen 1
    have u0 := hbr3.cell 0
    have u1 := hbr3.cell 1
    simp only [List.getElem?_toArray, List.getElem?_cons_zero, List.getElem?_cons_succ] at u0 u1
    obtain ⟨g3, c3, bs3, rfl, hl3, hB3, hn3'⟩ := hE3
    have H3 := hid (And.intro hbr3 (And.intro hl3 (And.intro hB3 (And.intro hn3' (And.intro (HY.out.2.2.2.2.2.2.1.trans hs3) hn3)))))
    clear hbr3 hl3 hB3 hn3' hs3 hn3
    obtain ⟨w4, rfl⟩ : ∃ w4 : World, w4 = w3 := ⟨_, rfl⟩
    go_wp2_with fail
    have hb2 := (H3.out.1.set 0 (.slice (some ⟨g3, 0, none⟩) n3 c3)).set 1 (v64 s3)
    have hK2 : Keeps (fun b => b = x + 1) w4 ((w4.setCell ⟨x + 1, 0, none⟩ (.slice (some ⟨g3, 0, none⟩) n3 c3)).setCell ⟨x + 1, 1, none⟩ (v64 s3)) := Keeps.setCell (p := ⟨x + 1, 1, none⟩) (Keeps.setCell (p := ⟨x + 1, 0, none⟩) (Keeps.refl (fun b => b = x + 1) _) (fun _ => rfl) _) (fun _ => rfl) _
    simp only [List.setIfInBounds_toArray, List.set_cons_zero, List.set_cons_succ] at hb2
    have k0 := hb2.cell 0
    have k1 := hb2.cell 1
    simp only [List.getElem?_toArray, List.getElem?_cons_zero, List.getElem?_cons_succ] at k0 k1
    have hne3 : g3 ≠ x + 1 := bys_ne H3.out.2.2.1 H3.out.1 (by decide)
    refine bodyPost_ret (v := .agg #[.slice (some ⟨g3, 0, none⟩) n3 c3, v64 s3]) (by simp [results, Tryz.results83, go_sem, k0, k1]) rfl ?_
    exact ⟨_, n3, s3, rfl, ⟨g3, c3, bs3, rfl, H3.out.2.1, H3.out.2.2.1.keeps hK2 (fun b hb e => by simp [sblk] at hb; omega), H3.out.2.2.2.1⟩, H3.out.2.2.2.2.2, hs3a, hs3b, H3.out.2.2.2.2.1.trans' hK2 fun b hb e => by have := HXE.out; omega⟩
  · have t0 : (b == 1) = false := by simpa using hb1
    have HY := hid (And.intro HS.out.2.1 (And.intro HS.out.2.2.1 (And.intro HB.out.2.1 (And.intro HS.out.2.2.2 (And.intro HZ.out.1 (And.intro HZ.out.2 (And.intro HS.out.1 HZ.out)))))))
    go_upto_region 4 with fail
    clear y0 y1 z0
    obtain ⟨wy, rfl⟩ : ∃ wy : World, wy = wb := ⟨_, rfl⟩
    obtain ⟨g1, rfl⟩ : ∃ g1, g1 = g := ⟨_, rfl⟩
    obtain ⟨c1, rfl⟩ : ∃ c1, c1 = cap := ⟨_, rfl⟩
    obtain ⟨bs1, rfl⟩ : ∃ bs1, bs1 = bs := ⟨_, rfl⟩
    obtain ⟨s1, rfl⟩ : ∃ s1, s1 = a := ⟨_, rfl⟩
    have hbx1 := HY.out.1
    have w0_ := hbx1.cell 0
    have w1_ := hbx1.cell 1
    simp only [List.getElem?_toArray, List.getElem?_cons_zero, List.getElem?_cons_succ] at w0_ w1_
    have HE := hid (show E3 wy (.agg #[.slice (some ⟨g1, 0, none⟩) n c1, v64 s1]) n s1 from ⟨g1, c1, bs1, rfl, HY.out.2.2.1, HY.out.2.2.2.1, HB.out.2.2⟩)
    clear hbx1
    go_wp2_with fail
    refine (HWi.out _ n s1 wy HE.out hn HY.out.2.2.2.2.1 HY.out.2.2.2.2.2.1).mono ?_
    rintro z w3 ⟨v3, n3, s3, rfl, hE3, hn3, hs3a, hs3b, hs3⟩
    have hbr3 := HY.out.2.1.keeps hs3 (fun h => h)
    have r0 := hbr3.frozen 0
    have r1 := hbr3.frozen 1
    have u0 := hbr3.cell 0
    have u1 := hbr3.cell 1
    simp only [List.getElem?_toArray, List.getElem?_cons_zero, List.getElem?_cons_succ] at u0 u1
    obtain ⟨g3, c3, bs3, rfl, hl3, hB3, hn3'⟩ := hE3
    have H3 := hid (And.intro hbr3 (And.intro hl3 (And.intro hB3 (And.intro hn3' (And.intro (HY.out.2.2.2.2.2.2.1.trans hs3) hn3)))))
    clear hbr3 hl3 hB3 hn3' hs3 hn3
    obtain ⟨w4, rfl⟩ : ∃ w4 : World, w4 = w3 := ⟨_, rfl⟩
    go_wp2_with fail
    have hb2 := (H3.out.1.set 0 (.slice (some ⟨g3, 0, none⟩) n3 c3)).set 1 (v64 s3)
    have hK2 : Keeps (fun b => b = x + 1) w4 ((w4.setCell ⟨x + 1, 0, none⟩ (.slice (some ⟨g3, 0, none⟩) n3 c3)).setCell ⟨x + 1, 1, none⟩ (v64 s3)) := Keeps.setCell (p := ⟨x + 1, 1, none⟩) (Keeps.setCell (p := ⟨x + 1, 0, none⟩) (Keeps.refl (fun b => b = x + 1) _) (fun _ => rfl) _) (fun _ => rfl) _
    simp only [List.setIfInBounds_toArray, List.set_cons_zero, List.set_cons_succ] at hb2
    have k0 := hb2.cell 0
    have k1 := hb2.cell 1
    simp only [List.getElem?_toArray, List.getElem?_cons_zero, List.getElem?_cons_succ] at k0 k1
    have hne3 : g3 ≠ x + 1 := bys_ne H3.out.2.2.1 H3.out.1 (by decide)
    refine bodyPost_ret (v := .agg #[.slice (some ⟨g3, 0, none⟩) n3 c3, v64 s3]) (by simp [results, Tryz.results83, go_sem, k0, k1]) rfl ?_
    exact ⟨_, n3, s3, rfl, ⟨g3, c3, bs3, rfl, H3.out.2.1, H3.out.2.2.1.keeps hK2 (fun b hb e => by simp [sblk] at hb; omega), H3.out.2.2.2.1⟩, H3.out.2.2.2.2.2, hs3a, hs3b, H3.out.2.2.2.2.1.trans' hK2 fun b hb e => by have := HXE.out; omega⟩

set_option maxHeartbeats 2000000 in
set_option maxRecDepth 100000 in
theorem r3end_any (v : Value) (n sz : Nat) (w : World) (h : E3 w v n sz) (hn : n ≤ 1000000) :
    Calls Tryz.prog 25 #[v] w fun z w' => (∃ s, z = .returned (.string s)) ∧ Same w w' := by
  obtain ⟨g, cap, bs, rfl, hlen, hB, hn0⟩ := h
  have hown := hB.own
  rw [hlen] at hown
  have hcv : ∀ w0 : World, Same w w0 → (convert 53 9 (.slice (some ⟨g, 0, none⟩) n cap)).run Tryz.prog w0 = .ok (.string ⟨bs.toArray⟩) w0 := fun w0 hs => by
    have := run_convert_bytes_back w0 53 9 5 ⟨g, 0, none⟩ cap bs Tryz.underlying53 Tryz.underlying5 Tryz.underlying9 fun j hj => by
      have := (hB.same hs).own.cells rfl j _ (b8_get bs j hj)
      exact this
    rw [hlen] at this
    exact this
  have hs1 : Same w (w.alloc (.cells #[.slice (some ⟨g, 0, none⟩) n cap, v64 sz] 56)) := (Keeps.refl _ _).alloc _
  have hcv1 := hcv _ hs1
  have hzz : ¬ 9223372036854775807 < 1 + bs.length := by omega
  have HS := hid hs1
  clear hcv hown hB hlen hs1
  go_enter Tryz.func25, Tryz.ntmps25
  go_wp2_with fail
  go_ret
  exact ⟨⟨_, rfl⟩, HS.out⟩
end Go.Proofs.YtalopgbkjgjppaaGreatDoor
