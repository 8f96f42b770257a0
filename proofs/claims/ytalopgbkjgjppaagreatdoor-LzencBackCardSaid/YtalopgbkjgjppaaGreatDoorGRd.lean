/- Part of a proof: Rd, Re, Rg. -/
import Derived.Test.YtalopgbkjgjppaaGreatDoorGRa
import Derived.Test.YtalopgbkjgjppaaGreatDoorBw
import Derived.BigQuiet
import Derived.WalkSpells
/- The walks of rc's encoder: Direct, NewEncoder, End. -/
namespace Go.Proofs.YtalopgbkjgjppaaGreatDoor
open Go.RowKit Go.Cas Go.Cas.Enc

/-- Bits of a number, each by half of the range, the highest first: what was told or read. -/
def Cdr.dir (v : Nat) : Nat → Nat → Cdr → Nat × Cdr
  | 0, acc, C => (acc, C)
  | n + 1, acc, C => Cdr.dir v n (2 * acc + (C.half (v / 2 ^ n % 2)).1) (C.half (v / 2 ^ n % 2)).2

theorem widen_n : ∀ (f : Nat) (E : Enc), (E.widen f).n ≤ E.n + f
  | 0, _ => Nat.le_refl _
  | f + 1, E => by
    unfold Enc.widen
    split
    · have := widen_n f E.grow.shift
      rw [shift_n, grow_n] at this
      omega
    · omega

theorem half_n (E : Enc) (b : Nat) : (E.half b).n ≤ E.n + 4 := widen_n 4 _
theorem bit_n (E : Enc) (p b : Nat) : (E.bit p b).n ≤ E.n + 4 := by
  have := widen_n 4 (E.cut p b)
  have e : (E.cut p b).n = E.n := by unfold Enc.cut; split <;> rfl
  rw [e] at this
  exact this

set_option maxHeartbeats 4000000 in
set_option maxRecDepth 100000 in
theorem edirect_any (e cap : Nat) (E : Enc) (q : Option Addr) (v n : Nat) (w : World) (h : Enw w e E q cap) (hg : Enc.Good E) (hn : E.n + 4 * n ≤ 1000000000) (hv : v < 4294967296) (hnn : n ≤ 32) :
    Calls Tryz.prog 137 #[.pointer (some ⟨e, 0, none⟩), v32 v, i6 n] w fun z w' => z = .returned (.tuple #[]) ∧ ∃ F', CM e (Cdr.dir v n 0 (.enc E)).2 F' w' ∧ Keeps (winF e q) w w' ∧ ∀ k, F' k → winF e q k ∨ w.heap.size ≤ k := by
  obtain ⟨R, hR⟩ : ∃ R, (Cdr.dir v n 0 (.enc E)).2 = R := ⟨_, rfl⟩
  rw [hR]
  have hw1 : IntKind.i64.wrap ((n : Int) - 1) = (n : Int) - 1 := IntWalk.i64_in _ (by omega)
  go_enter Tryz.func137, Tryz.ntmps137
  go_wp2_with fail
  go_loopw [6] (fun s6 wr => ∃ (m acc : Nat) (E1 : Enc) (q1 : Option Addr) (c1 : Nat), s6 = i6 ((m : Int) - 1) ∧ m ≤ n ∧ Enw wr e E1 q1 c1 ∧ Enc.Good E1 ∧ E1.n + 4 * m ≤ 1000000000 ∧ (Cdr.dir v m acc (.enc E1)).2 = R ∧ Keeps (winF e q) w wr ∧ ∀ k, winF e q1 k → winF e q k ∨ w.heap.size ≤ k) (fun s6 _ => (intOf s6 + 1).toNat)
  case atStart => exact ⟨n, 0, E, q, cap, rfl, Nat.le_refl _, h, hg, hn, hR, Keeps.refl _ _, fun _ h => .inl h⟩
  case round =>
    clear h hg hn hR hw1
    obtain ⟨m, acc, E1, q1, c1, rfl, hmn, hE, hgd, hcnt, hfin, hK, hG⟩ := hrel
    by_cases hm : m = 0
    · subst hm
      have d0 : decide ((0 : Int) ≤ ((0 : Nat) : Int) - 1) = false := by decide
      have d1 : decide ((((0 : Nat) : Int) - 1) ≥ 0) = false := by decide
      go_wp2_with fail
      go_end0
      have hfin' : Cdr.enc E1 = R := hfin
      subst hfin'
      exact ⟨rfl, winF e q1, ⟨q1, c1, hE, rfl⟩, hK, hG⟩
    · obtain ⟨i, rfl⟩ : ∃ i, m = i + 1 := ⟨m - 1, by omega⟩
      have ei : ((i + 1 : Nat) : Int) - 1 = (i : Int) := by omega
      rw [ei]
      have d0 : decide ((i : Int) ≥ 0) = true := by simp
      have hi31 : i < 32 := by omega
      have y0 := hE.blk.cell 0
      have y1 := hE.blk.cell 1
      simp only [List.getElem?_toArray, List.getElem?_cons_succ, List.getElem?_cons_zero] at y0 y1
      have hfz0 := hE.blk.frozen 0
      have hfz1 := hE.blk.frozen 1
      have hsz := hgd.mid.size'
      have hlow := mid_low hgd.mid
      have HX := hid (And.intro hE (And.intro hgd (And.intro hcnt (And.intro hfin (And.intro hK hG)))))
      clear hE hgd hcnt hfin hK hG hm ei
      obtain ⟨vi, hvi⟩ : ∃ vi, v / 2 ^ i = vi := ⟨_, rfl⟩
      obtain ⟨hs, hhs⟩ : ∃ hs, E1.size / 2 = hs := ⟨_, rfl⟩
      obtain ⟨lb, hlb⟩ : ∃ lb, E1.low + hs = lb := ⟨_, rfl⟩
      have e1 : (v : Int) / 2 ^ i = (vi : Int) := by rw [← hvi]; push_cast; rfl
      have hvl : vi < 2 ^ 32 := by rw [← hvi]; exact Nat.lt_of_le_of_lt (Nat.div_le_self _ _) hv
      have e2 := and1_u32 vi hvl
      have e3 : (E1.size : Int) / 2 = (hs : Int) := by omega
      have e4 : (E1.low : Int) + (hs : Int) = (lb : Int) := by omega
      have hlo := HX.out.2.1.mid.low
      have hge := HX.out.2.1.ge
      have h5 : lb < 8589934592 ∧ hs < 4294967296 := by omega
      have he : e < wr.heap.size := HX.out.1.blk.lt
      by_cases hb : vi % 2 = 0
      · rw [hb] at e2
        have hm : Mid ⟨E1.low, hs, E1.cache, E1.pend, E1.out⟩ := HX.out.2.1.mid.narrow (a := 0) (by omega) (by omega)
        have HW := hid (fun W hW => widen_any e c1 ⟨E1.low, hs, E1.cache, E1.pend, E1.out⟩ q1 W hW hm (by have h1 := HX.out.2.2.1; have : E1.n = (⟨E1.low, hs, E1.cache, E1.pend, E1.out⟩ : Enc).n := rfl; omega))
        have hhalf : E1.half 0 = (⟨E1.low, hs, E1.cache, E1.pend, E1.out⟩ : Enc).widen 4 := by rw [half_zero, ← hhs]; rfl
        have hE0 := hid (HX.out.1.size (s := hs))
        have HK0 := hid (Keeps.setCell (Keeps.refl (winF e q1) wr) (p := ⟨e, 1, none⟩) (fun _ => .inl rfl) (v32 hs))
        have HB := hid (show v / 2 ^ i % 2 = 0 by rw [hvi]; exact hb)
        have HH := hid hhalf
        clear hb hvi hhs hlb hm hhalf hlo hge
        go_wp2_with fail
        refine (HW.out _ hE0.out).mono ?_
        rintro z w3 ⟨rfl, q2, c2, hE2, hK2, hG2⟩
        have HE2 := hid hE2
        have HR := hid (Keeps.chain HX.out.2.2.2.2.1 HX.out.2.2.2.2.2 (HK0.out.trans hK2) (fun k hk => (hG2 k hk).imp_right fun h => by simpa using h))
        clear hE2 hK2 hG2
        go_wp2_with fail
        have hE3 := HE2.out
        rw [← HH.out] at hE3
        have hfin := HX.out.2.2.2.1
        unfold Cdr.dir at hfin
        rw [HB.out] at hfin
        have hnn := half_n E1 0
        have hcc := HX.out.2.2.1
        exact ⟨⟨i, 2 * acc + 0, E1.half 0, q2, c2, by go_num, by omega, hE3, (half_step HX.out.2.1 0).1, by omega, hfin, HR.out.1, HR.out.2⟩, by simp [intOf]⟩
      · have hb1 : vi % 2 = 1 := by omega
        rw [hb1] at e2
        have hm : Mid ⟨lb, hs, E1.cache, E1.pend, E1.out⟩ := by rw [← hlb]; exact HX.out.2.1.mid.narrow (a := hs) (by omega) (by omega)
        have HW := hid (fun W hW => widen_any e c1 ⟨lb, hs, E1.cache, E1.pend, E1.out⟩ q1 W hW hm (by have h1 := HX.out.2.2.1; have : E1.n = (⟨lb, hs, E1.cache, E1.pend, E1.out⟩ : Enc).n := rfl; omega))
        have hhalf : E1.half 1 = (⟨lb, hs, E1.cache, E1.pend, E1.out⟩ : Enc).widen 4 := by rw [half_one, ← hlb, ← hhs]; rfl
        have hE0 := hid (((HX.out.1.size (s := hs)).low (s := lb)).keeps (S := fun _ => False) ((Keeps.refl _ _).drew) (fun _ _ h => h))
        have HB := hid (show v / 2 ^ i % 2 = 1 by rw [hvi]; exact hb1)
        have HH := hid hhalf
        clear hb hb1 hvi hhs hlb hm hhalf hlo hge
        go_wp2_with fail
        go_region
        go_wp2_with fail
        refine (HW.out _ hE0.out).mono ?_
        rintro z w3 ⟨rfl, q2, c2, hE2, hK2, hG2⟩
        have HE2 := hid hE2
        have HK0 : Keeps (winF e q1) wr ((wr.setCell ⟨e, 1, none⟩ (v32 hs)).setCell ⟨e, 0, none⟩ (v64 lb)).drew := (Keeps.setCell (Keeps.setCell (Keeps.refl (winF e q1) wr) (p := ⟨e, 1, none⟩) (fun _ => .inl rfl) (v32 hs)) (p := ⟨e, 0, none⟩) (fun _ => .inl rfl) (v64 lb)).drew
        have HR := hid (Keeps.chain HX.out.2.2.2.2.1 HX.out.2.2.2.2.2 (HK0.trans hK2) (fun k hk => (hG2 k hk).imp_right fun h => by simpa using h))
        clear hE2 hK2 hG2 HK0
        go_wp2_with fail
        have hE3 := HE2.out
        rw [← HH.out] at hE3
        have hfin := HX.out.2.2.2.1
        unfold Cdr.dir at hfin
        rw [HB.out] at hfin
        have hnn := half_n E1 1
        have hcc := HX.out.2.2.1
        exact ⟨⟨i, 2 * acc + 1, E1.half 1, q2, c2, by go_num, by omega, hE3, (half_step HX.out.2.1 1).1, by omega, hfin, HR.out.1, HR.out.2⟩, by simp [intOf]⟩

set_option maxHeartbeats 1000000 in
theorem enew_any (w : World) : Calls Tryz.prog 31 #[] w fun z w' => z = .returned (.pointer (some ⟨w.heap.size, 0, none⟩)) ∧ Same w w' ∧ Enw w' w.heap.size Enc.first none 0 := by
  go_enter Tryz.func31, Tryz.ntmps31
  go_wp2
  go_ret
  exact ⟨rfl, (Keeps.refl _ _).alloc _, Blk.new _ _ _, World.ownsRow_nil _ _ _ _, by simp [sblk]⟩

def shifts : Nat → Enc → Enc
  | 0, E => E
  | k + 1, E => (shifts k E).shift

theorem shifts_low {E : Enc} (h : E.low < 8589934592) : ∀ k, (shifts k E).low < 8589934592
  | 0 => h
  | k + 1 => by unfold shifts; rw [shift_low]; omega
theorem shifts_n (E : Enc) : ∀ k, (shifts k E).n = E.n + k
  | 0 => rfl
  | k + 1 => by unfold shifts; rw [shift_n, shifts_n E k]; omega

theorem end_conv {w : World} {e cap : Nat} {E : Enc} {q : Option Addr} (h : Enw w e E q cap) : (convert 53 9 (.slice q E.out.length cap)).run Tryz.prog w = .ok (.string ⟨E.out.toArray⟩) w := by
  cases q with
  | none =>
    have h0 : E.out = [] := by
      rcases h.own.2 with ⟨h1, h2⟩ | ⟨g, c, cur, h1, _⟩
      · exact List.eq_nil_of_length_eq_zero h2
      · simp at h1
    have := run_convert_bytes_nil (P := Tryz.prog) w 53 5 Tryz.underlying53 Tryz.underlying5 E.out.length cap 9 Tryz.underlying9
    rw [h0] at this ⊢
    exact this
  | some a =>
    have ea : a = ⟨a.block, 0, none⟩ := by
      rcases h.own.2 with ⟨h1, h2⟩ | ⟨g, c, cur, h1, _⟩
      · simp at h1
      · simp at h1; rw [h1.1]
    refine run_convert_bytes_back w 53 9 5 a cap E.out Tryz.underlying53 Tryz.underlying5 Tryz.underlying9 fun j hj => ?_
    have hown := h.own
    rw [ea] at hown
    have := hown.cells rfl j _ (b8_get E.out j hj)
    rw [ea]
    exact this

theorem end_start {w w1 : World} {E : Enc} {X : Value} {q1 : Option Addr} {c1 : Nat} (hk : Keeps (sblk none) (w.alloc (.cells #[v64 E.low, v32 E.size, b8 E.cache, i6 E.pend, X] 139)) w1)
    (hown : w1.ownsRow 0 5 1 (.slice q1 (0 + E.out.length) c1) (0 + E.out.length) ([] ++ E.out.map b8)) (hat : ∀ k, sblk q1 k → sblk none k ∨ k = (w.alloc (.cells #[v64 E.low, v32 E.size, b8 E.cache, i6 E.pend, X] 139)).heap.size) :
    w1.cell? ⟨w.heap.size, 4, none⟩ = some X ∧ w1.frozen? ⟨w.heap.size, 4, none⟩ = false ∧ Hid (Enw (w1.setCell ⟨w.heap.size, 4, none⟩ (.slice q1 E.out.length c1)) w.heap.size E q1 c1 ∧ Same w (w1.setCell ⟨w.heap.size, 4, none⟩ (.slice q1 E.out.length c1)) ∧ ∀ k, winF w.heap.size q1 k → w.heap.size ≤ k) := by
  have hb := Blk.keeps (Blk.new w #[v64 E.low, v32 E.size, b8 E.cache, i6 E.pend, X] 139) hk (by simp [sblk])
  have hne : ¬ sblk q1 w.heap.size := by
    intro h
    rcases hat _ h with h | h
    · simp [sblk] at h
    · simp at h
  refine ⟨by simpa using hb.cell 4, hb.frozen 4, hid ⟨⟨?_, ?_, hne⟩, ?_, ?_⟩⟩
  · have := hb.set 4 (.slice q1 E.out.length c1)
    simpa using this
  · rw [Nat.zero_add, List.nil_append] at hown
    exact ownsRow_keeps (S := fun k => k = w.heap.size) hown (Keeps.setCell (Keeps.refl (fun k => k = w.heap.size) w1) (p := ⟨w.heap.size, 4, none⟩) (fun _ => rfl) (.slice q1 E.out.length c1)) (fun b hb e' => hne (by rw [ownBlock_slice] at hb; exact e' ▸ hb))
  · exact Keeps.setCell (((Keeps.refl (fun _ => False) w).alloc _).trans' hk (fun b _ h => by simp [sblk] at h)) (p := ⟨w.heap.size, 4, none⟩) (fun h => absurd h (Nat.lt_irrefl _)) _
  · rintro k (rfl | h)
    · exact Nat.le_refl _
    · rcases hat k h with h | h
      · simp [sblk] at h
      · rw [h]; simp

set_option maxHeartbeats 4000000 in
set_option maxRecDepth 100000 in
theorem eend_any (e cap : Nat) (E : Enc) (q : Option Addr) (w : World) (h : Enw w e E q cap) (hg : Enc.Good E) (hn : E.n ≤ 1000000000) :
    Calls Tryz.prog 34 #[.pointer (some ⟨e, 0, none⟩)] w fun z w' => z = .returned (.string ⟨E.ended.toArray⟩) ∧ Same w w' := by
  have y0 := h.blk.cell 0
  have y1 := h.blk.cell 1
  have y2 := h.blk.cell 2
  have y3 := h.blk.cell 3
  have y4 := h.blk.cell 4
  simp only [List.getElem?_toArray, List.getElem?_cons_succ, List.getElem?_cons_zero] at y0 y1 y2 y3 y4
  have he := h.blk.lt
  have hne : ¬ e = w.heap.size := by omega
  obtain ⟨i0, HI⟩ := info_hid Tryz.infoB
  have hcap : E.out.length ≤ 1000000000 := by have : E.n = E.out.length + E.pend := rfl; omega
  have hnn : ∀ w, (Builtin.append_ #[53, 53] 53 #[.slice none 0 0, .slice none 0 0]).run Tryz.prog w = .ok (.slice none 0 0) w := fun w => by kernel_rfl
  have hlow := mid_low hg.mid
  have HX := hid (And.intro h (And.intro hg hn))
  have hb8 : ∀ u ∈ E.out.map b8, u.oneCell' = true := by
    intro u hu
    obtain ⟨x, _, rfl⟩ := List.mem_map.1 hu
    rfl
  have Hb8 := hid hb8
  clear hb8
  cases q with
  | none =>
    have h0 : E.out = [] ∧ cap = 0 := by
      rcases h.own.2 with ⟨h1, h2⟩ | ⟨g, c, cur, h1, _⟩
      · simp at h1; exact ⟨List.eq_nil_of_length_eq_zero h2, h1.2⟩
      · simp at h1
    obtain ⟨h0, rfl⟩ := h0
    rw [h0] at y4
    have H0 := hid h0
    have y4' : w.cell? ⟨e, 4, none⟩ = some (.slice none 0 0) := y4
    clear h0 h hg hn y4
    go_enter Tryz.func34, Tryz.ntmps34
    have HS : Hid (Enw (w.alloc (.cells #[v64 E.low, v32 E.size, b8 E.cache, i6 E.pend, .slice none 0 0] 139)) w.heap.size (shifts 0 E) none 0 ∧ Same w (w.alloc (.cells #[v64 E.low, v32 E.size, b8 E.cache, i6 E.pend, .slice none 0 0] 139)) ∧ ∀ k, winF w.heap.size none k → w.heap.size ≤ k) := by
      refine hid ⟨⟨?_, ?_, by simp [sblk]⟩, (Keeps.refl _ _).alloc _, by simp [winF]⟩
      · show Blk _ _ #[_, _, _, _, .slice none E.out.length 0] _
        rw [H0.out]
        exact Blk.new _ _ _
      · show World.ownsRow _ _ _ _ (.slice none E.out.length 0) E.out.length (E.out.map b8)
        rw [H0.out]
        exact World.ownsRow_nil _ _ _ _
    go_wp2_with fail
    clear y0 y1 y2 y3 hnn
    go_loopw [15] (fun s15 wr => ∃ (k : Nat) (q2 : Option Addr) (c2 : Nat), s15 = i6 k ∧ k ≤ 5 ∧ Enw wr w.heap.size (shifts k E) q2 c2 ∧ Same w wr ∧ ∀ k, winF w.heap.size q2 k → w.heap.size ≤ k) (fun s15 _ => 5 - (intOf s15).toNat)
    case atStart => exact ⟨0, none, 0, rfl, by omega, HS.out⟩
    case round =>
      clear HS
      obtain ⟨k, q2, c2, rfl, hk5, hE, hsm, hge⟩ := hrel
      by_cases hlt : k < 5
      · have d0 : decide ((k : Int) < 5) = true := by simp; omega
        have HSh := hid (shift_any w.heap.size c2 (shifts k E) q2 wr hE (shifts_low hlow k) (by have h1 := shifts_n E k; have h2 : (shifts k E).n = (shifts k E).out.length + (shifts k E).pend := rfl; have := HX.out.2.2; omega))
        have HG := hid hge
        clear hE hge
        go_wp2_with (go_at_call 68; refine HSh.out.mono ?_; rintro z w3 ⟨rfl, q3, c3, hE3, hK3, hG3⟩)
        refine ⟨⟨k + 1, q3, c3, by go_num, by omega, hE3, hsm.trans' hK3 (fun b hb h => absurd (HG.out b h) (by omega)), fun k hk => ?_⟩, by simp [intOf]; omega⟩
        rcases hG3 k hk with h | h
        · exact HG.out k h
        · exact Nat.le_trans hsm.size h
      · obtain rfl : k = 5 := by omega
        have d0 : decide (((5 : Nat) : Int) < 5) = false := by decide
        have z4 := hE.blk.cell 4
        simp only [List.getElem?_toArray, List.getElem?_cons_succ, List.getElem?_cons_zero] at z4
        have hcv := end_conv hE
        clear hlt hE
        go_wp2_with fail
        go_ret
        exact ⟨rfl, hsm⟩
  | some a =>
    have ea : a = ⟨a.block, 0, none⟩ := by
      rcases h.own.2 with ⟨h1, h2⟩ | ⟨g, c, cur, h1, _⟩
      · simp at h1
      · simp at h1; rw [h1.1]
    generalize a.block = gb at ea
    subst ea
    have hown := h.own
    clear h hg hn
    go_enter Tryz.func34, Tryz.ntmps34
    go_wp2_with ((at_builtin; refine wpList_push _ rfl _ _ 53 rfl 5 i0 (.int .u8 0) 1 1 Tryz.underlying53 HI rfl (by decide) none 0 0 [] rfl (World.ownsRow_nil _ _ _ _) ⟨gb, 0, none⟩ E.out.length cap (E.out.map b8) rfl (by simp) (by intro j u hj; have := (hown.alloc (.cells #[v64 E.low, v32 E.size, b8 E.cache, i6 E.pend, .slice (some ⟨gb, 0, none⟩) E.out.length cap] 139)).cells rfl j u hj; exact this) Hb8.out (hid (by unfold maxLen; omega)) (hid (by omega)) ?_; intro q1 c1 w1 hown1 hk1 hat1 hold1; obtain ⟨x4, xf, HS⟩ := end_start hk1 hown1 hat1; clear hold1 hown1 hk1 hat1))
    clear y0 y1 y2 y3 hnn
    go_loopw [15] (fun s15 wr => ∃ (k : Nat) (q2 : Option Addr) (c2 : Nat), s15 = i6 k ∧ k ≤ 5 ∧ Enw wr w.heap.size (shifts k E) q2 c2 ∧ Same w wr ∧ ∀ k, winF w.heap.size q2 k → w.heap.size ≤ k) (fun s15 _ => 5 - (intOf s15).toNat)
    case atStart => exact ⟨0, q1, c1, rfl, by omega, HS.out⟩
    case round =>
      clear HS
      obtain ⟨k, q2, c2, rfl, hk5, hE, hsm, hge⟩ := hrel
      by_cases hlt : k < 5
      · have d0 : decide ((k : Int) < 5) = true := by simp; omega
        have HSh := hid (shift_any w.heap.size c2 (shifts k E) q2 wr hE (shifts_low hlow k) (by have h1 := shifts_n E k; have h2 : (shifts k E).n = (shifts k E).out.length + (shifts k E).pend := rfl; have := HX.out.2.2; omega))
        have HG := hid hge
        clear hE hge
        go_wp2_with (go_at_call 68; refine HSh.out.mono ?_; rintro z w3 ⟨rfl, q3, c3, hE3, hK3, hG3⟩)
        refine ⟨⟨k + 1, q3, c3, by go_num, by omega, hE3, hsm.trans' hK3 (fun b hb h => absurd (HG.out b h) (by omega)), fun k hk => ?_⟩, by simp [intOf]; omega⟩
        rcases hG3 k hk with h | h
        · exact HG.out k h
        · exact Nat.le_trans hsm.size h
      · obtain rfl : k = 5 := by omega
        have d0 : decide (((5 : Nat) : Int) < 5) = false := by decide
        have z4 := hE.blk.cell 4
        simp only [List.getElem?_toArray, List.getElem?_cons_succ, List.getElem?_cons_zero] at z4
        have hcv := end_conv hE
        clear hlt hE
        go_wp2_with fail
        go_ret
        exact ⟨rfl, hsm⟩
end Go.Proofs.YtalopgbkjgjppaaGreatDoor

/- The walks of rc's decoder. -/
namespace Go.Proofs.YtalopgbkjgjppaaGreatDoor
open Go.RowKit Go.Cas Go.Cas.Enc

/-- The next byte, if there is one. -/
def popD (D : Dec) : UInt8 × Dec := match D.rest with
  | [] => (0, { D with bad := true })
  | b :: l => (b, { D with rest := l })

theorem next_is (D : Dec) : D.next = { (popD D).2 with code := D.code * 256 % 4294967296 + (popD D).1.toNat } := by
  obtain ⟨rest, code, size, part, bad⟩ := D
  cases rest with
  | nil => simp [Dec.next, popD]
  | cons b l => simp [Dec.next, popD]

def PopLeft (w w' : World) (z : Ending) (x : Nat) (D : Dec) : Prop := z = .returned (b8 (popD D).1) ∧ Dcw w' x (popD D).2 ∧ Keeps (fun b => b = x) w w'

set_option maxHeartbeats 2000000 in
set_option maxRecDepth 100000 in
theorem dnext_any (x : Nat) (D : Dec) (w : World) (h : Dcw w x D) :
    Calls Tryz.prog 93 #[.pointer (some ⟨x, 0, none⟩)] w fun z w' => PopLeft w w' z x D := by
  obtain ⟨rest, code, size, part, bad⟩ := D
  have y0 := h.cell 0
  have y4 := h.cell 4
  simp only [List.getElem?_toArray, List.getElem?_cons_succ, List.getElem?_cons_zero] at y0 y4
  have hfz := h.frozen 0
  have hfz4 := h.frozen 4
  cases rest with
  | nil =>
    have HB := hid h
    clear h
    go_enter Tryz.func93, Tryz.ntmps93
    go_wp2_with fail
    go_ret
    refine ⟨rfl, ?_, Keeps.setCell (Keeps.refl (fun b => b = x) w) (p := ⟨x, 4, none⟩) (fun _ => rfl) _⟩
    have hb := Blk.set HB.out 4 (.bool true)
    simp only [List.setIfInBounds_toArray, List.set_cons_zero, List.set_cons_succ] at hb
    exact hb
  | cons b l =>
    have HB := hid h
    clear h
    have hs1 : (⟨(b :: l).toArray⟩ : ByteArray).size = l.length + 1 := by simp [ByteArray.size]
    have hex : (⟨(b :: l).toArray⟩ : ByteArray).extract 1 (l.length + 1) = ⟨l.toArray⟩ := by
      apply ByteArray.ext
      simp
    go_enter Tryz.func93, Tryz.ntmps93
    go_wp2_with fail
    go_ret
    refine ⟨rfl, ?_, Keeps.setCell (Keeps.refl (fun b => b = x) w) (p := ⟨x, 0, none⟩) (fun _ => rfl) _⟩
    have hb := Blk.set HB.out 0 (.string ⟨l.toArray⟩)
    simp only [List.setIfInBounds_toArray, List.set_cons_zero, List.set_cons_succ] at hb
    exact hb

theorem dec_widen_ok : ∀ (f : Nat) {D : Dec}, D.code < 4294967296 → 0 < D.size → D.size < 4294967296 → 16777216 ≤ D.size * 256 ^ f → DecOk (D.widen f)
  | 0, D, h1, h2, h3, h4 => ⟨by show 16777216 ≤ D.size; omega, h3, h1⟩
  | f + 1, D, h1, h2, h3, h4 => by
    unfold Dec.widen
    split
    · rename_i hs
      have hn := next_is { D with size := D.size * 256 }
      have hb := (popD { D with size := D.size * 256 }).1.toNat_lt
      have hsz : ({ D with size := D.size * 256 } : Dec).next.size = D.size * 256 := by unfold Dec.next; split <;> rfl
      refine dec_widen_ok f ?_ (by rw [hsz]; omega) (by rw [hsz]; omega) ?_
      · rw [hn]; show D.code * 256 % 4294967296 + _ < _; omega
      · rw [hsz, Nat.mul_assoc, ← Nat.pow_succ']; exact h4
    · rename_i hs
      exact ⟨by omega, h3, h1⟩

theorem or_byte (c : Nat) (b : UInt8) : (c * 256 % 4294967296) ||| b.toNat = c * 256 % 4294967296 + b.toNat := by
  have hb := b.toNat_lt
  have : c * 256 % 4294967296 = (c % 16777216) * 2 ^ 8 := by omega
  rw [this]
  exact or_join (by omega)

def DecLeft (w w' : World) (z : Ending) (x : Nat) (D : Dec) : Prop := z = .returned (.tuple #[]) ∧ Dcw w' x D ∧ Keeps (fun b => b = x) w w'

set_option maxHeartbeats 4000000 in
set_option maxRecDepth 100000 in
theorem dwiden_any (x : Nat) (D : Dec) (w : World) (h : Dcw w x D) (hc : D.code < 4294967296) (hp : 0 < D.size) (hs : D.size < 4294967296) :
    Calls Tryz.prog 127 #[.pointer (some ⟨x, 0, none⟩)] w fun z w' => DecLeft w w' z x (D.widen 4) := by
  obtain ⟨R, hR⟩ : ∃ R, D.widen 4 = R := ⟨_, rfl⟩
  rw [hR]
  have hgo : 16777216 ≤ D.size * 256 ^ 4 := by omega
  go_enter Tryz.func127, Tryz.ntmps127
  go_wp2_with fail
  go_loopw [] (fun wr => ∃ f D1, Dcw wr x D1 ∧ D1.code < 4294967296 ∧ 0 < D1.size ∧ D1.size < 4294967296 ∧ D1.widen f = R ∧ 16777216 ≤ D1.size * 256 ^ f ∧ Keeps (fun b => b = x) w wr) (fun wr => 4294967296 - (match wr.cell? ⟨x, 2, none⟩ with | some v => (intOf v).toNat | none => 0))
  case atStart => exact ⟨4, D, h, hc, hp, hs, hR, hgo, Keeps.refl _ _⟩
  case round =>
    clear hgo hR h hc hp hs
    obtain ⟨f, D1, hD, hc, hp, hs, hfin, hsz, hK⟩ := hrel
    have y2 := hD.cell 2
    simp only [List.getElem?_toArray, List.getElem?_cons_succ, List.getElem?_cons_zero] at y2
    have hfz := hD.frozen 2
    by_cases hlt : D1.size < 16777216
    · obtain ⟨f', rfl⟩ : ∃ f', f = f' + 1 := ⟨f - 1, by cases f with | zero => simp at hsz; omega | succ f => rfl⟩
      unfold Dec.widen at hfin
      rw [if_pos hlt] at hfin
      have d0 : decide ((D1.size : Int) < 16777216) = true := by simp; omega
      have hlt' : (D1.size : Int) < 16777216 := by omega
      have hDs : Dcw (wr.setCell ⟨x, 2, none⟩ (v32 (D1.size * 256))) x { D1 with size := D1.size * 256 } := by
        have hb := Blk.set hD 2 (v32 (D1.size * 256))
        simp only [List.setIfInBounds_toArray, List.set_cons_zero, List.set_cons_succ] at hb
        exact hb
      have hN := next_is { D1 with size := D1.size * 256 }
      have hy1 := hDs.cell 1
      simp only [List.getElem?_toArray, List.getElem?_cons_succ, List.getElem?_cons_zero] at hy1
      have hPop := hid (fun W hW => dnext_any x { D1 with size := D1.size * 256 } W hW)
      obtain ⟨by_, hby⟩ : ∃ b, (popD { D1 with size := D1.size * 256 }).1 = b := ⟨_, rfl⟩
      obtain ⟨D2, hD2⟩ : ∃ D2, (popD { D1 with size := D1.size * 256 }).2 = D2 := ⟨_, rfl⟩
      have hD2c : D2.code = D1.code ∧ D2.size = D1.size * 256 := by
        rw [← hD2]
        unfold popD
        split <;> exact ⟨rfl, rfl⟩
      unfold PopLeft at hPop
      rw [hby, hD2] at hN hPop
      obtain ⟨sh, hsh⟩ : ∃ sh, D1.code * 256 % 4294967296 = sh := ⟨_, rfl⟩
      obtain ⟨nc, hnc⟩ : ∃ nc, sh + by_.toNat = nc := ⟨_, rfl⟩
      have hbl := by_.toNat_lt
      have s1 : IntKind.u32.wrap ((D1.code : Int) * 256) = (sh : Int) := by
        rw [← hsh]; simp [IntKind.wrap, IntKind.bits, IntKind.signed]
      have s2 : bits BinOp.or IntKind.u32 (sh : Int) (by_.toNat : Int) = (nc : Int) := by
        rw [or_u32 sh by_.toNat (by omega) (by omega), ← hnc, ← hsh, or_byte]
      have s3 : IntKind.u32.wrap (by_.toNat : Int) = (by_.toNat : Int) := wr_u32 _ (by omega) (by omega)
      rw [hsh, hnc] at hN
      have hncl : nc < 4294967296 := by omega
      have HS := hid (And.intro hfin (And.intro hsz hK))
      have HN := hid hN
      have HDs := hid hDs
      have HC := hid hD2c
      have HQ := hid (And.intro hp hs)
      have Hy := hid y2
      have hxl : x < wr.heap.size := hD.lt
      clear hfin hsz hK hlt hD hN hby hD2 hsh hnc hbl hDs hD2c hp hs
      go_upto_region 2 with fail
      have e256 : Value.int .u32 ((D1.size : Int) * 256) = v32 (D1.size * 256) := by show Value.int .u32 _ = Value.int .u32 ((D1.size * 256 : Nat) : Int); congr 1
      rw [e256]
      generalize hW1 : wr.setCell ⟨x, 2, none⟩ (v32 (D1.size * 256)) = W1 at *
      refine wp_region_S (S := (fun V => V.cell? ⟨x, 1, none⟩ = some (v32 D1.code))) 10 (by kernel_rfl) (by (try dsimp only); exact hy1) (fun hHeld => ?_)
      refine wpAnyS_take (i := 0) (oi := ⟨some 14, _, _, _, _, _⟩) (v := ?v0) rfl (by kernel_rfl) (by kernel_rfl) (by kernel_rfl) (by kernel_rfl) (fun _ _ _ h => h) (Or.inl ⟨by rfl, ?h0⟩) (by assumption) ?r0
      case h0 => intro w hSw; (try dsimp only at hSw); go_simp; (try with_reducible rfl)
      try simp only [Act.put, List.setIfInBounds_toArray, List.set_cons_zero, List.set_cons_succ]
      refine wpAnyS_take (i := 1) (oi := ⟨some 15, _, _, _, _, _⟩) (v := ?v1) rfl (by kernel_rfl) (by kernel_rfl) (by kernel_rfl) (by kernel_rfl) (fun _ _ _ h => h) (Or.inl ⟨by rfl, ?h1⟩) (by assumption) ?r1
      case h1 => intro w hSw; (try dsimp only at hSw); go_simp; (try with_reducible rfl)
      try simp only [Act.put, List.setIfInBounds_toArray, List.set_cons_zero, List.set_cons_succ]
      refine wpAnyS_take (i := 2) (oi := ⟨some 16, _, _, _, _, _⟩) (v := ?v2) rfl (by kernel_rfl) (by kernel_rfl) (by kernel_rfl) (by kernel_rfl) (fun _ _ _ h => h) (Or.inl ⟨by rfl, ?h2⟩) (by assumption) ?r2
      case h2 => intro w hSw; (try dsimp only at hSw); go_simp; (try with_reducible rfl)
      try simp only [Act.put, List.setIfInBounds_toArray, List.set_cons_zero, List.set_cons_succ]
      refine wpAnyS_take (i := 3) (oi := ⟨some 17, _, _, _, _, _⟩) (v := ?v3) rfl (by kernel_rfl) (by kernel_rfl) (by kernel_rfl) (by kernel_rfl) (fun _ _ _ h => h) (Or.inl ⟨by rfl, ?h3⟩) (by assumption) ?r3
      case h3 => intro w hSw; (try dsimp only at hSw); go_simp; (try with_reducible rfl)
      try simp only [Act.put, List.setIfInBounds_toArray, List.set_cons_zero, List.set_cons_succ]
      refine wpAnyS_take (i := 4) (oi := ⟨some 18, _, _, _, _, _⟩) (v := ?v4) rfl (by kernel_rfl) (by kernel_rfl) (by kernel_rfl) (by kernel_rfl) (fun _ _ _ h => h) (Or.inl ⟨by rfl, ?h4⟩) (by assumption) ?r4
      case h4 => intro w hSw; (try dsimp only at hSw); go_simp; (try with_reducible rfl)
      try simp only [Act.put, List.setIfInBounds_toArray, List.set_cons_zero, List.set_cons_succ]
      refine wpAnyS_take (i := 5) (oi := ⟨some 19, _, _, _, _, _⟩) (v := ?v5) rfl (by kernel_rfl) (by kernel_rfl) (by kernel_rfl) (by kernel_rfl) (fun _ _ _ h => h) (Or.inl ⟨by rfl, ?h5⟩) (by assumption) ?r5
      case h5 => intro w hSw; (try dsimp only at hSw); go_simp; (try with_reducible rfl)
      try simp only [Act.put, List.setIfInBounds_toArray, List.set_cons_zero, List.set_cons_succ]
      refine wpAnyS_take (i := 6) (oi := ⟨some 20, _, _, _, _, _⟩) (v := ?v6) rfl (by kernel_rfl) (by kernel_rfl) (by kernel_rfl) (by kernel_rfl) (fun _ _ _ h => h) (Or.inl ⟨by rfl, ?h6⟩) (by assumption) ?r6
      case h6 => intro w hSw; (try dsimp only at hSw); go_simp; (try with_reducible rfl)
      try simp only [Act.put, List.setIfInBounds_toArray, List.set_cons_zero, List.set_cons_succ]
      refine wpAnyS_one (i := 7) (o := ⟨some 21, _, _, _, _, _⟩) rfl (by kernel_rfl) (fun K hK => ?_)
      go_simp; (go_at_call 93; refine (hPop.out _ (HDs.out.keeps (S := fun _ => False) ((Keeps.refl _ _).drew) (fun h => h))).mono ?_; rintro z w3 ⟨rfl, hD3, hK3⟩; have z1 : w3.cell? ⟨x, 1, none⟩ = some (v32 D1.code) := (by (have := hD3.cell 1; simp only [List.getElem?_toArray, List.getElem?_cons_succ, List.getElem?_cons_zero] at this; rw [this, HC.out.1])); have f1 := hD3.frozen 1; have HD3 := hid (And.intro hD3 hK3); clear hD3 hK3)
      refine hK.out _ _ (fun _ => by (try dsimp only); exact z1) ?_
      clear hK K
      try simp only [Act.put, List.setIfInBounds_toArray, List.set_cons_zero, List.set_cons_succ]
      refine wpAnyS_take (i := 8) (oi := ⟨some 22, _, _, _, _, _⟩) (v := ?v8) rfl (by kernel_rfl) (by kernel_rfl) (by kernel_rfl) (by kernel_rfl) (fun _ _ _ h => h) (Or.inl ⟨by rfl, ?h8⟩) (by assumption) ?r8
      case h8 => intro w hSw; (try dsimp only at hSw); go_simp; (try with_reducible rfl)
      try simp only [Act.put, List.setIfInBounds_toArray, List.set_cons_zero, List.set_cons_succ]
      refine wpAnyS_take (i := 9) (oi := ⟨some 23, _, _, _, _, _⟩) (v := ?v9) rfl (by kernel_rfl) (by kernel_rfl) (by kernel_rfl) (by kernel_rfl) (fun _ _ _ h => h) (Or.inl ⟨by rfl, ?h9⟩) (by assumption) ?r9
      case h9 => intro w hSw; (try dsimp only at hSw); go_simp; (try with_reducible rfl)
      try simp only [Act.put, List.setIfInBounds_toArray, List.set_cons_zero, List.set_cons_succ]
      refine wpAnyS_one (i := 10) (o := ⟨some 24, _, _, _, _, _⟩) rfl (by kernel_rfl) (fun K hK => ?_)
      go_simp
      refine hK.out _ _ (fun h => absurd h (by decide)) ?_
      clear hK K
      try simp only [Act.put, List.setIfInBounds_toArray, List.set_cons_zero, List.set_cons_succ]
      refine wpAnyS_one (i := 11) (o := ⟨some 25, _, _, _, _, _⟩) rfl (by kernel_rfl) (fun K hK => ?_)
      go_simp
      refine hK.out _ _ (fun h => absurd h (by decide)) ?_
      clear hK K
      try simp only [Act.put, List.setIfInBounds_toArray, List.set_cons_zero, List.set_cons_succ]
      refine wpAnyS_one (i := 12) (o := ⟨none, _, _, _, _, _⟩) rfl (by kernel_rfl) (fun K hK => ?_)
      go_simp
      refine hK.out _ _ (fun h => absurd h (by decide)) ?_
      clear hK K
      try simp only [Act.put, List.setIfInBounds_toArray, List.set_cons_zero, List.set_cons_succ]
      refine wpAnyS_done (by kernel_rfl) ?_ _
      have hW : Dcw (w3.setCell ⟨x, 1, none⟩ (v32 nc)) x ({ D1 with size := D1.size * 256 } : Dec).next := by
        rw [HN.out]
        have hb := Blk.set HD3.out.1 1 (v32 nc)
        simp only [List.setIfInBounds_toArray, List.set_cons_zero, List.set_cons_succ] at hb
        exact hb
      have hKK : Keeps (fun b => b = x) wr (w3.setCell ⟨x, 1, none⟩ (v32 nc)) := by
        refine Keeps.setCell (Keeps.trans (w' := W1.drew) ?_ HD3.out.2) (p := ⟨x, 1, none⟩) (fun _ => rfl) _
        rw [← hW1]
        exact (Keeps.setCell (Keeps.refl (fun b => b = x) wr) (p := ⟨x, 2, none⟩) (fun _ => rfl) _).drew
      go_wp2_with fail
      obtain ⟨hfin, hsz, hK⟩ := HS.out
      have hnc : ({ D1 with size := D1.size * 256 } : Dec).next.code = nc := by rw [HN.out]
      have hns : ({ D1 with size := D1.size * 256 } : Dec).next.size = D1.size * 256 := by rw [HN.out]; exact HC.out.2
      have hq := HQ.out
      have z2 := hW.cell 2
      simp only [List.getElem?_toArray, List.getElem?_cons_succ, List.getElem?_cons_zero] at z2
      refine ⟨⟨f', _, hW, by omega, by omega, by omega, hfin, ?_, hK.trans hKK⟩, ?_⟩
      · rw [hns, Nat.mul_assoc, ← Nat.pow_succ']
        exact hsz
      · rw [z2, Hy.out, hns]
        simp [intOf]
        omega
    · have hfe : D1.widen f = D1 := by
        cases f with
        | zero => rfl
        | succ f => unfold Dec.widen; rw [if_neg hlt]
      rw [hfe] at hfin
      subst hfin
      have d0 : decide ((D1.size : Int) < 16777216) = false := by simp; omega
      clear hlt hfe hsz
      go_wp2_with fail
      go_end0
      exact ⟨rfl, hD, hK⟩


theorem dbit_end {w w0 W w' : World} {x : Nat} {D' : Dec} {z : Ending} {g o : Nat} {cs : Array Value} {t : TypeId} {v : Value}
    (hk0 : Keeps (fun b => b = x) w w0) (hB : Blk w g cs t) (hge : g ≠ x) (hW : W = (w0.setCell ⟨g, o, none⟩ v).drew) (h : DecLeft W w' z x D') : StepLeft w w' x (.dec D') (fun k => k = x) g (cs.setIfInBounds o v) t := by
  obtain ⟨rfl, hD, hK⟩ := h
  subst hW
  have hk1 : Keeps (fun k => k = x ∨ k = g) w ((w0.setCell ⟨g, o, none⟩ v).drew) :=
    Keeps.drew (Keeps.setCell (hk0.mono fun b _ hb => .inl hb) (p := ⟨g, o, none⟩) (fun _ => .inr rfl) v)
  have hb1 : Blk ((w0.setCell ⟨g, o, none⟩ v).drew) g (cs.setIfInBounds o v) t := ((hB.keeps hk0 hge).set o v).drew
  exact ⟨fun k => k = x, ⟨hD, rfl⟩, hk1.trans' hK (fun b _ hb => .inl hb), fun k hk => .inl hk, hb1.keeps hK hge⟩

set_option maxHeartbeats 4000000 in
set_option maxRecDepth 100000 in
theorem dbit_any (x : Nat) (D : Dec) (g o p : Nat) (cs : Array Value) (t : TypeId) (w : World) (h : Dcw w x D) (hd : DecOk D) (hp : okPr p) (hB : Blk w g cs t) (hco : cs[o]? = some (v16 p)) (hge : g ≠ x) :
    Calls Tryz.prog 150 #[.pointer (some ⟨x, 0, none⟩), .pointer (some ⟨g, o, none⟩)] w fun z w' =>
      CodeLeft w w' z (i6 (D.bit p).1) x (.dec (D.bit p).2) (fun k => k = x) g (cs.setIfInBounds o (v16 (learnP p (D.bit p).1))) t := by
  obtain ⟨d1, d2, d3⟩ := hd
  obtain ⟨bn, hbn⟩ : ∃ bn, D.bound p = bn := ⟨_, rfl⟩
  have hbl : 0 < bn ∧ bn < D.size := by
    obtain ⟨p1, p2⟩ := hp
    rw [← hbn]
    unfold Dec.bound
    constructor
    · have : 8192 * 31 ≤ D.size / 2048 * p := Nat.mul_le_mul (by omega) p1
      omega
    · have : D.size / 2048 * p ≤ D.size / 2048 * 2017 := Nat.mul_le_mul_left _ p2
      omega
  have f1 : IntKind.u32.wrap ((D.size : Int) / 2048 * (p : Int)) = (bn : Int) := by
    have e1 : ((D.bound p : Nat) : Int) = (D.size : Int) / 2048 * (p : Int) := by unfold Dec.bound; push_cast; rfl
    rw [← e1, hbn]
    exact wr_u32 _ (by omega) (by omega)
  have y1 := h.cell 1
  have y2 := h.cell 2
  simp only [List.getElem?_toArray, List.getElem?_cons_succ, List.getElem?_cons_zero] at y1 y2
  have hc : w.cell? ⟨g, o, none⟩ = some (v16 p) := (hB.cell o).trans hco
  have hfz1 := h.frozen 1
  have hfz2 := h.frozen 2
  have hpp : p ≤ 2048 := by have := hp.2; omega
  have HL := hid (learn_any g o p)
  have hxl := h.lt
  have HX := hid (And.intro h (And.intro hB (And.intro hge (And.intro hp hco))))
  by_cases hlt : D.code < bn
  · have hbit : D.bit p = (0, ({ D with size := bn } : Dec).widen 4) := by unfold Dec.bit; rw [hbn, if_pos hlt]
    rw [hbit]
    dsimp only
    have HW := hid (fun W hW => dwiden_any x { D with size := bn } W hW d3 (by dsimp only; omega) (by dsimp only; omega))
    have dt : decide ((D.code : Int) < (bn : Int)) = true := by simpa using hlt
    have dt2 : decide (D.code < bn) = true := by simpa using hlt
    clear hbit hbn hlt h hB hge hp hco
    go_enter Tryz.func150, Tryz.ntmps150
    go_wp2_with fail
    go_quiet (fail)
    go_wp2_with fail
    have hD0 : Dcw ((w.drewN nq).setCell ⟨x, 2, none⟩ (v32 bn)) x { D with size := bn } := by
      have hb := Blk.set (Blk.keeps HX.out.1 ((Keeps.refl (fun _ => False) w).drewN nq) (fun h => h)) 2 (v32 bn)
      simp only [List.setIfInBounds_toArray, List.set_cons_zero, List.set_cons_succ] at hb
      exact hb
    have hk0 : Keeps (fun b => b = x) w ((w.drewN nq).setCell ⟨x, 2, none⟩ (v32 bn)) := Keeps.setCell ((Keeps.refl (fun b => b = x) w).drewN nq) (p := ⟨x, 2, none⟩) (fun _ => rfl) _
    have hBk := HX.out.2.1.keeps hk0 HX.out.2.2.1
    refine (HL.out 0 (by decide) HX.out.2.2.2.1 _ ((hBk.cell o).trans HX.out.2.2.2.2) (hBk.frozen o)).mono ?_
    rintro z w2 ⟨rfl, rfl⟩
    have hD1 := hid (Blk.drew (Blk.keeps hD0 (Keeps.setCell (Keeps.refl (fun k => k = g) _) (p := ⟨g, o, none⟩) (fun _ => rfl) (v16 (learnP p 0))) (fun e => HX.out.2.2.1 e.symm)))
    have HK0 := hid hk0
    clear hBk hD0 hk0
    go_wp2_with fail
    refine (HW.out _ hD1.out).mono ?_
    intro z w3 h3
    have h4 := hid (dbit_end HK0.out HX.out.2.1 HX.out.2.2.1 rfl h3)
    obtain ⟨rfl, _⟩ := h3
    go_wp2_with fail
    go_ret
    exact ⟨rfl, h4.out⟩
  · have hbit : D.bit p = (1, ({ D with code := D.code - bn, size := D.size - bn } : Dec).widen 4) := by unfold Dec.bit; rw [hbn, if_neg hlt]
    rw [hbit]
    dsimp only
    obtain ⟨cb, hcb⟩ : ∃ cb, D.code - bn = cb := ⟨_, rfl⟩
    obtain ⟨sb, hsb⟩ : ∃ sb, D.size - bn = sb := ⟨_, rfl⟩
    rw [hcb, hsb]
    have c1 : (D.code : Int) - (bn : Int) = (cb : Int) := by omega
    have c2 : (D.size : Int) - (bn : Int) = (sb : Int) := by omega
    have k4 : cb < 4294967296 ∧ 0 < sb ∧ sb < 4294967296 := by omega
    have HW := hid (fun W hW => dwiden_any x { D with code := cb, size := sb } W hW k4.1 k4.2.1 k4.2.2)
    have dt : decide ((D.code : Int) < (bn : Int)) = false := by simpa using hlt
    have dt2 : decide (D.code < bn) = false := by simpa using hlt
    have hbc : (bn : Int) ≤ (D.code : Int) := by omega
    have hbc2 : (bn : Int) ≤ (D.size : Int) := by omega
    clear hbit hbn hlt h hB hge hp hco hcb hsb
    go_enter Tryz.func150, Tryz.ntmps150
    go_wp2_with fail
    go_quiet (fail)
    go_wp2_with fail
    have hD0 : Dcw (((w.drewN nq).setCell ⟨x, 1, none⟩ (v32 cb)).setCell ⟨x, 2, none⟩ (v32 sb)) x { D with code := cb, size := sb } := by
      have hb := Blk.set (Blk.set (Blk.keeps HX.out.1 ((Keeps.refl (fun _ => False) w).drewN nq) (fun h => h)) 1 (v32 cb)) 2 (v32 sb)
      simp only [List.setIfInBounds_toArray, List.set_cons_zero, List.set_cons_succ] at hb
      exact hb
    have hk0 : Keeps (fun b => b = x) w (((w.drewN nq).setCell ⟨x, 1, none⟩ (v32 cb)).setCell ⟨x, 2, none⟩ (v32 sb)) := Keeps.setCell (Keeps.setCell ((Keeps.refl (fun b => b = x) w).drewN nq) (p := ⟨x, 1, none⟩) (fun _ => rfl) _) (p := ⟨x, 2, none⟩) (fun _ => rfl) _
    have hBk := HX.out.2.1.keeps hk0 HX.out.2.2.1
    refine (HL.out 1 (by decide) HX.out.2.2.2.1 _ ((hBk.cell o).trans HX.out.2.2.2.2) (hBk.frozen o)).mono ?_
    rintro z w2 ⟨rfl, rfl⟩
    have hD1 := hid (Blk.drew (Blk.keeps hD0 (Keeps.setCell (Keeps.refl (fun k => k = g) _) (p := ⟨g, o, none⟩) (fun _ => rfl) (v16 (learnP p 1))) (fun e => HX.out.2.2.1 e.symm)))
    have HK0 := hid hk0
    clear hBk hD0 hk0
    go_wp2_with fail
    refine (HW.out _ hD1.out).mono ?_
    intro z w3 h3
    have h4 := hid (dbit_end HK0.out HX.out.2.1 HX.out.2.2.1 rfl h3)
    obtain ⟨rfl, _⟩ := h3
    go_wp2_with fail
    go_ret
    exact ⟨rfl, h4.out⟩
end Go.Proofs.YtalopgbkjgjppaaGreatDoor

/- The walks of rc's decoder: Direct, NewDecoder, Done, Bad. -/
namespace Go.Proofs.YtalopgbkjgjppaaGreatDoor
open Go.RowKit Go.Cas Go.Cas.Enc
theorem dec_half_le (D : Dec) : (Dec.half D).1 ≤ 1 := by unfold Dec.half; split <;> simp

theorem dec_half_ok {D : Dec} (h : DecOk D) : DecOk (Dec.half D).2 := by
  obtain ⟨h1, h2, h3⟩ := h
  unfold Dec.half
  split
  · exact dec_widen_ok 4 (by dsimp only; omega) (by dsimp only; omega) (by dsimp only; omega) (by dsimp only; omega)
  · exact dec_widen_ok 4 (by dsimp only; omega) (by dsimp only; omega) (by dsimp only; omega) (by dsimp only; omega)

theorem dec_bit_ok {D : Dec} (h : DecOk D) {p : Nat} (hp : okPr p) : DecOk (D.bit p).2 := by
  obtain ⟨h1, h2, h3⟩ := h
  obtain ⟨p1, p2⟩ := hp
  have k1 : 8192 * 31 ≤ D.size / 2048 * p := Nat.mul_le_mul (by omega) p1
  have k2 : D.size / 2048 * p ≤ D.size / 2048 * 2017 := Nat.mul_le_mul_left _ p2
  have hb : D.bound p = D.size / 2048 * p := rfl
  unfold Dec.bit
  split
  · exact dec_widen_ok 4 (by dsimp only; omega) (by dsimp only; omega) (by dsimp only; omega) (by dsimp only; omega)
  · exact dec_widen_ok 4 (by dsimp only; omega) (by dsimp only; omega) (by dsimp only; omega) (by dsimp only; omega)

set_option maxHeartbeats 4000000 in
set_option maxRecDepth 100000 in
theorem ddirect_any (x : Nat) (D : Dec) (v n : Nat) (w : World) (h : Dcw w x D) (hd : DecOk D) (hn : n ≤ 32) :
    Calls Tryz.prog 151 #[.pointer (some ⟨x, 0, none⟩), i6 n] w fun z w' => z = .returned (v32 (Cdr.dir v n 0 (.dec D)).1) ∧ ∃ F', CM x (Cdr.dir v n 0 (.dec D)).2 F' w' ∧ Keeps (fun k => k = x) w w' ∧ ∀ k, F' k → k = x := by
  obtain ⟨R, hR⟩ : ∃ R, Cdr.dir v n 0 (.dec D) = R := ⟨_, rfl⟩
  rw [hR]
  go_enter Tryz.func151, Tryz.ntmps151
  go_wp2_with fail
  go_loopw [5, 9] (fun s5 s9 wr => ∃ (i acc : Nat) (D1 : Dec), s5 = v32 acc ∧ s9 = i6 i ∧ i ≤ n ∧ acc < 2 ^ i ∧ Dcw wr x D1 ∧ DecOk D1 ∧ Cdr.dir v (n - i) acc (.dec D1) = R ∧ Keeps (fun k => k = x) w wr) (fun _ s9 _ => n - (intOf s9).toNat)
  case atStart => exact ⟨0, 0, D, rfl, rfl, Nat.zero_le _, by decide, h, hd, hR, Keeps.refl _ _⟩
  case round =>
    clear h hd hR
    obtain ⟨i, acc, D1, rfl, rfl, hin, hacc, hD, hok, hfin, hK⟩ := hrel
    by_cases hlt : i < n
    · have d0 : decide ((i : Int) < (n : Int)) = true := by simpa using hlt
      have hpw : (2 : Nat) ^ (i + 1) ≤ 2 ^ 32 := Nat.pow_le_pow_right (by decide) (by omega)
      have hpw2 : (2 : Nat) ^ (i + 1) = 2 * 2 ^ i := by rw [Nat.pow_succ]; omega
      have hacc2 : 2 * acc + 1 < 4294967296 := by omega
      have hacc3 : 2 * acc + 1 < 2 ^ (i + 1) := by omega
      obtain ⟨hs, hhs⟩ : ∃ hs, D1.size / 2 = hs := ⟨_, rfl⟩
      obtain ⟨a2, ha2⟩ : ∃ a2, 2 * acc = a2 := ⟨_, rfl⟩
      have e3 : (D1.size : Int) / 2 = (hs : Int) := by omega
      have e4 : (acc : Int) * 2 = (a2 : Int) := by omega
      have e5 : bits BinOp.or IntKind.u32 (a2 : Int) 1 = ((a2 + 1 : Nat) : Int) := by
        have := or_u32 a2 1 (by omega) (by decide)
        rw [← ha2, or_bit (by decide), ha2] at this
        exact this
      obtain ⟨a3, ha3⟩ : ∃ a3, a2 + 1 = a3 := ⟨_, rfl⟩
      rw [ha3] at e5
      obtain ⟨k1, k2, k3⟩ := hok
      have y1 := hD.cell 1
      have y2 := hD.cell 2
      simp only [List.getElem?_toArray, List.getElem?_cons_succ, List.getElem?_cons_zero] at y1 y2
      have hfz1 := hD.frozen 1
      have hfz2 := hD.frozen 2
      have hxl := hD.lt
      have hdir : Cdr.dir v (n - i) acc (.dec D1) = Cdr.dir v (n - (i + 1)) (2 * acc + (Dec.half D1).1) (.dec (Dec.half D1).2) := by
        rw [show n - i = (n - (i + 1)) + 1 from by omega]; rfl
      rw [hdir] at hfin
      have hok2 := hid (dec_half_ok ⟨k1, k2, k3⟩)
      have HX := hid (And.intro hD (And.intro hK (And.intro hin hlt)))
      by_cases hge : hs ≤ D1.code
      · obtain ⟨cb, hcb⟩ : ∃ cb, D1.code - hs = cb := ⟨_, rfl⟩
        have hhalf : Dec.half D1 = (1, ({ D1 with code := cb, size := hs } : Dec).widen 4) := by unfold Dec.half; rw [hhs, if_pos hge, hcb]
        rw [hhalf] at hfin hok2
        have c1 : (D1.code : Int) - (hs : Int) = (cb : Int) := by omega
        have k4 : cb < 4294967296 ∧ 0 < hs ∧ hs < 4294967296 := by omega
        have HW := hid (fun W hW => dwiden_any x { D1 with code := cb, size := hs } W hW k4.1 k4.2.1 k4.2.2)
        have dt : decide ((D1.code : Int) ≥ (hs : Int)) = true := by simp; omega
        have dt2 : decide (hs ≤ D1.code) = true := by simpa using hge
        have hbc : (hs : Int) ≤ (D1.code : Int) := by omega
        have HF := hid (And.intro hfin (And.intro hacc3 (And.intro ha2 ha3)))
        clear hfin hhalf hcb hge hdir hhs ha2 ha3 hpw hpw2 hacc3 hD hK hin k1 k2 k3
        go_wp2_with fail
        go_quiet (fail)
        go_wp2_with fail
        go_region
        go_wp2_with fail
        have hD0 : Dcw (((wr.setCell ⟨x, 2, none⟩ (v32 hs)).drewN (nq + 1)).setCell ⟨x, 1, none⟩ (v32 cb)) x { D1 with code := cb, size := hs } := by
          have hb := Blk.set (Blk.keeps (Blk.set HX.out.1 2 (v32 hs)) ((Keeps.refl (fun _ => False) _).drewN (nq + 1)) (fun h => h)) 1 (v32 cb)
          simp only [List.setIfInBounds_toArray, List.set_cons_zero, List.set_cons_succ] at hb
          exact hb
        have HK0 := hid (Keeps.setCell ((Keeps.setCell (Keeps.refl (fun b => b = x) wr) (p := ⟨x, 2, none⟩) (fun _ => rfl) (v32 hs)).drewN (nq + 1)) (p := ⟨x, 1, none⟩) (fun _ => rfl) (v32 cb))
        refine (HW.out _ hD0).mono ?_
        rintro z w3 ⟨rfl, hD3, hK3⟩
        have HD3 := hid hD3
        have HK3 := hid (HX.out.2.1.trans (HK0.out.trans hK3))
        clear hD3 hK3 hD0
        go_wp2_with fail
        obtain ⟨f1, f2, f3, f4⟩ := HF.out
        have := HX.out.2.2.2
        exact ⟨⟨i + 1, a3, _, rfl, by go_num, by omega, by omega, HD3.out, hok2.out, by rw [← f1, ← f4, ← f3], HK3.out⟩, by simp [intOf]; omega⟩
      · have hhalf : Dec.half D1 = (0, ({ D1 with size := hs } : Dec).widen 4) := by unfold Dec.half; rw [hhs, if_neg hge]
        rw [hhalf] at hfin hok2
        have k4 : 0 < hs ∧ hs < 4294967296 := by omega
        have HW := hid (fun W hW => dwiden_any x { D1 with size := hs } W hW k3 k4.1 k4.2)
        have dt : decide ((D1.code : Int) ≥ (hs : Int)) = false := by simp; omega
        have dt2 : decide (hs ≤ D1.code) = false := by simpa using hge
        have HF := hid (And.intro hfin (And.intro hacc3 (And.intro ha2 ha3)))
        clear hfin hhalf hge hdir hhs ha2 ha3 hpw hpw2 hacc3 hD hK hin k1 k2 k3
        go_wp2_with fail
        go_quiet (fail)
        go_wp2_with fail
        have hD0 : Dcw ((wr.setCell ⟨x, 2, none⟩ (v32 hs)).drewN nq) x { D1 with size := hs } := by
          have hb := Blk.keeps (Blk.set HX.out.1 2 (v32 hs)) ((Keeps.refl (fun _ => False) _).drewN nq) (fun h => h)
          simp only [List.setIfInBounds_toArray, List.set_cons_zero, List.set_cons_succ] at hb
          exact hb
        have HK0 := hid ((Keeps.setCell (Keeps.refl (fun b => b = x) wr) (p := ⟨x, 2, none⟩) (fun _ => rfl) (v32 hs)).drewN nq)
        refine (HW.out _ hD0).mono ?_
        rintro z w3 ⟨rfl, hD3, hK3⟩
        have HD3 := hid hD3
        have HK3 := hid (HX.out.2.1.trans (HK0.out.trans hK3))
        clear hD3 hK3 hD0
        go_wp2_with fail
        obtain ⟨f1, f2, f3, f4⟩ := HF.out
        have := HX.out.2.2.2
        exact ⟨⟨i + 1, a2, _, rfl, by go_num, by omega, by omega, HD3.out, hok2.out, by rw [← f1, ← f3]; rfl, HK3.out⟩, by simp [intOf]; omega⟩
    · obtain rfl : i = n := by omega
      have d0 : decide ((i : Int) < (i : Int)) = false := by simp
      have hfin' : (acc, Cdr.dec D1) = R := by rw [← hfin, Nat.sub_self]; rfl
      subst hfin'
      clear hlt hfin
      go_wp2_with fail
      go_ret
      exact ⟨rfl, fun k => k = x, ⟨hD, rfl⟩, hK, fun _ h => h⟩

set_option maxHeartbeats 1000000 in
theorem ddone_any (x : Nat) (D : Dec) (w : World) (h : Dcw w x D) :
    Calls Tryz.prog 97 #[.pointer (some ⟨x, 0, none⟩)] w fun z w' => z = .returned (.bool (D.rest.isEmpty && D.code == 0)) ∧ w' = w := by
  have y0 := h.cell 0
  have y1 := h.cell 1
  simp only [List.getElem?_toArray, List.getElem?_cons_succ, List.getElem?_cons_zero] at y0 y1
  obtain ⟨rest, code, size, part, bad⟩ := D
  dsimp only at y0 y1 ⊢
  cases rest with
  | nil =>
    by_cases hc : code = 0
    · subst hc
      go_enter Tryz.func97, Tryz.ntmps97
      go_wp2_with fail
      go_ret
      exact ⟨rfl, rfl⟩
    · have d0 : ((code : Int) == 0) = false := by simp; omega
      have d1 : (([] : List UInt8).isEmpty && code == 0) = false := by simpa using hc
      rw [d1]
      clear d1 hc
      go_enter Tryz.func97, Tryz.ntmps97
      go_wp2_with fail
      go_ret
      exact ⟨rfl, rfl⟩
  | cons b l =>
    go_enter Tryz.func97, Tryz.ntmps97
    go_wp2_with fail
    go_ret
    exact ⟨rfl, rfl⟩

set_option maxHeartbeats 1000000 in
theorem dbad_any (x : Nat) (D : Dec) (w : World) (h : Dcw w x D) :
    Calls Tryz.prog 96 #[.pointer (some ⟨x, 0, none⟩)] w fun z w' => z = .returned (.bool D.bad) ∧ w' = w := by
  have y4 := h.cell 4
  simp only [List.getElem?_toArray, List.getElem?_cons_succ, List.getElem?_cons_zero] at y4
  go_enter Tryz.func96, Tryz.ntmps96
  go_wp2_with fail
  go_ret
  exact ⟨rfl, rfl⟩

end Go.Proofs.YtalopgbkjgjppaaGreatDoor
