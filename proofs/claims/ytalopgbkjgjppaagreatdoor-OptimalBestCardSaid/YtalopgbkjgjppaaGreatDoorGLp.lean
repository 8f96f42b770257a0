/- Part of a proof: Lp, Ly. -/
import Derived.Test.YtalopgbkjgjppaaGreatDoorGGy
/- The walk of lazy.Parse. -/
namespace Go.Proofs.YtalopgbkjgjppaaGreatDoor
open Go.RowKit Go.Cas

theorem nx_fin {wx : World} {p : Nat} {s : List UInt8} {W C : Int} {pl mb : Nat} {q : Option Addr} {c : Nat} (h : Fin wx p s W C pl pl mb q c) (hs : s.length ≤ 1000000) :
    Calls Tryz.prog 47 #[.pointer (some ⟨p, 0, none⟩)] wx fun z w' => ∃ r rc, z = .returned (.slice r (fnd s pl W C).length rc) ∧ Sl 98 2 w' r rc (fnd s pl W C).length (cellsF (fnd s pl W C)) ∧
      (if pl < s.length then NextLeft p s W C pl mb q wx w' else Same wx w') := by
  by_cases hl : pl < s.length
  · rw [fnd_lt s pl W C hl]
    refine (chnext_yes p s W C pl mb c q wx h hl hs).mono ?_
    rintro z w' ⟨r, rc, rfl, h1, h2⟩
    exact ⟨r, rc, rfl, h1, by rw [if_pos hl]; exact h2⟩
  · rw [fnd_end s pl W C (by omega)]
    refine (chnext_no p s W C pl pl mb c q wx h (by omega)).mono ?_
    rintro z w' ⟨rfl, h1⟩
    exact ⟨none, 0, rfl, Sl.nil _ _ _, by rw [if_neg hl]; exact h1⟩

theorem GS.step {w wx w' : World} {p : Nat} {s : List UInt8} {W C : Int} {pl mb : Nat} {q : Option Addr} {c : Nat} {q1 : Option Addr} {c1 : Nat} {ol : List Pk} (h : GS w wx p s W C pl mb q c q1 c1 ol) (hp : pl ≤ s.length)
    (k : if pl < s.length then NextLeft p s W C pl mb q wx w' else Same wx w') : ∃ q' c', GS w w' p s W C (min (pl + 1) s.length) mb q' c' q1 c1 ol := by
  by_cases hl : pl < s.length
  · rw [if_pos hl] at k
    rw [Nat.min_eq_left (by omega)]
    exact h.next k
  · rw [if_neg hl] at k
    rw [Nat.min_eq_right (by omega)]
    have : pl = s.length := by omega
    subst this
    exact ⟨q, c, h.same k⟩

theorem LS.step {w wx w' : World} {p : Nat} {s : List UInt8} {W C : Int} {pl mb : Nat} {q : Option Addr} {c : Nat} {q1 : Option Addr} {c1 : Nat} {ol : List Pk} {B : Nat} {x : Nat × Nat} (h : LS w wx p s W C pl mb q c q1 c1 ol B x) (hp : pl ≤ s.length)
    (k : if pl < s.length then NextLeft p s W C pl mb q wx w' else Same wx w') : ∃ q' c', LS w w' p s W C (min (pl + 1) s.length) mb q' c' q1 c1 ol B x := by
  by_cases hl : pl < s.length
  · rw [if_pos hl] at k
    rw [Nat.min_eq_left (by omega)]
    exact h.next k
  · rw [if_neg hl] at k
    rw [Nat.min_eq_right (by omega)]
    have : pl = s.length := by omega
    subst this
    exact ⟨q, c, h.same k⟩

theorem LS.put {w wx : World} {p : Nat} {s : List UInt8} {W C : Int} {pl mb : Nat} {q : Option Addr} {c : Nat} {q1 : Option Addr} {c1 : Nat} {ol : List Pk} {B : Nat} {x : Nat × Nat} (h : LS w wx p s W C pl mb q c q1 c1 ol B x) (y : Nat × Nat) :
    LS w ((wx.setCell ⟨B, 0, none⟩ (i6 y.1)).setCell ⟨B, 1, none⟩ (i6 y.2)) p s W C pl mb q c q1 c1 ol B y := by
  have hk : Keeps (fun b => b = B) wx ((wx.setCell ⟨B, 0, none⟩ (i6 y.1)).setCell ⟨B, 1, none⟩ (i6 y.2)) := Keeps.setCell (p := ⟨B, 1, none⟩) (Keeps.setCell (p := ⟨B, 0, none⟩) (Keeps.refl (fun b => b = B) wx) (fun _ => rfl) _) (fun _ => rfl) _
  refine ⟨⟨h.gs.fin.keeps hk (fun b hb e => h.n1 (e ▸ hb)), h.gs.pks.keeps hk (fun b hb e => h.n2 (e ▸ hb)), h.gs.ge, h.gs.fge, h.gs.dis, h.gs.sm.trans' hk fun b hb e => by have := h.n3; omega⟩, ?_, h.n1, h.n2, h.n3⟩
  have := (h.blk.set 0 (i6 y.1)).set 1 (i6 y.2)
  simpa using this

theorem lg_any (s : List UInt8) (i : Nat) (W C : Int) (hs : s.length ≤ 1000000) (r : Option Addr) (rc : Nat) (w0 : World) (hS : Sl 98 2 w0 r rc (fnd s i W C).length (cellsF (fnd s i W C))) :
    Calls Tryz.prog 46 #[.slice r (fnd s i W C).length rc] w0 fun z w' => z = .returned (.tuple #[.agg #[i6 (lastF (fnd s i W C)).1, i6 (lastF (fnd s i W C)).2], .bool (decide (0 < (fnd s i W C).length))]) ∧ Same w0 w' :=
  longest_any _ r rc w0 hS (fnd_bound s i W C hs) (fnd_length s i W C hs)

def plOf (w : World) (p : Nat) : Nat := match w.cell? ⟨p, 3, none⟩ with | some v => (intOf v).toNat | none => 0

theorem plOf_eq {wx : World} {p : Nat} {s : List UInt8} {W C : Int} {pl i mb : Nat} {q : Option Addr} {c : Nat} (h : Fin wx p s W C pl i mb q c) : plOf wx p = pl := by
  have := h.blk.cell 3
  simp only [List.getElem?_toArray, List.getElem?_cons_succ, List.getElem?_cons_zero] at this
  unfold plOf
  rw [this]
  simp [intOf]

set_option maxHeartbeats 4000000 in
set_option maxRecDepth 100000 in
theorem lparse_any (s : List UInt8) (W C : Int) (w : World) (hs : s.length ≤ 1000000) :
    Calls Tryz.prog 17 #[.string ⟨s.toArray⟩, i6 W, i6 C] w fun z w' => ∃ q' c', z = .returned (.slice q' (repeatL (lazyL s W C)).length c') ∧ Same w w' ∧ Pks w' q' c' (repeatL (lazyL s W C)) := by
  obtain ⟨i0, HI⟩ := info_hid Tryz.infoP
  have hst := leftZ_start s W C
  go_enter Tryz.func17, Tryz.ntmps17
  go_wp2_with (first
    | (go_at_call 44; refine (chnew_any _ _ _ _).mono ?_; rintro z w1 ⟨p, mb, rfl, hs1, hf1, hp1, hm1⟩)
    | (go_at_call 47; refine (nx_fin hf1 hs).mono ?_; rintro z w3 ⟨r, rc, rfl, hS3, hNL⟩)
    | (go_at_call 46; refine (lg_any s 0 W C hs _ _ _ hS3).mono ?_; rintro z w4 ⟨rfl, hs4⟩))
  have hG : GS w w1 p s W C 0 mb none 0 none 0 [] := ⟨hf1, ⟨World.ownsRow_nil _ _ _ _⟩, by simp [sblk], fun b e => e.elim (fun e => e ▸ hp1) (fun e => e.elim (fun e => e ▸ hm1) (fun e => by simp [sblk] at e)), by simp [sblk], hs1⟩
  obtain ⟨q', c', hG3⟩ := hG.step (Nat.zero_le _) hNL
  have hG4 := hG3.same hs4
  have hL4 : LS w (w4.alloc (.cells #[i6 (lastF (fnd s 0 W C)).1, i6 (lastF (fnd s 0 W C)).2] 98)) p s W C (min (0 + 1) s.length) mb q' c' none 0 [] w4.heap.size (lastF (fnd s 0 W C)) :=
    ⟨hG4.same ((Keeps.refl (fun _ => False) w4).alloc _), Blk.new _ _ _, fun e => by have := hG4.fin.lt _ e; omega, by simp [sblk], hG4.sm.size⟩
  generalize w4.heap.size = B at *
  clear hf1 hs1 hp1 hm1 hS3 hNL hs4 hG hG3 hG4
  go_loopw [8, 10, 11] (fun v ok at_ wx => ∃ (i : Nat) (q : Option Addr) (c : Nat) (q1 : Option Addr) (c1 : Nat) (ol : List Pk), v = .slice q1 ol.length c1 ∧ ok = .bool (decide (0 < (fnd s i W C).length)) ∧ at_ = i6 i ∧ LS w wx p s W C (min (i + 1) s.length) mb q c q1 c1 ol B (lastF (fnd s i W C)) ∧ ol ++ leftZ s W C i = lazyL s W C ∧ i ≤ s.length ∧ ol.length ≤ i) (fun _ _ at_ _ => s.length - (intOf at_).toNat)
  case atStart => exact ⟨0, q', c', none, 0, [], rfl, rfl, rfl, hL4, hst, by omega, Nat.le_refl _⟩
  case round =>
    clear hst hL4
    obtain ⟨i, q, c, q1, c1, ol, rfl, rfl, rfl, hL, hleft, hil, hoi⟩ := hrel
    by_cases hlt : i < s.length
    · have hget : s[i]? = some s[i] := by simp [hlt]
      have H1 := hid (show ol.length + 1 ≤ maxLen by unfold maxLen; omega)
      have H2 := hid (show (ol.length + 1) * 32 ≤ 140737488355328 by omega)
      rw [Nat.min_eq_left (show i + 1 ≤ s.length by omega)] at hL
      have hpl : i + 1 ≤ s.length := by omega
      have HN := hid (nx_fin hL.gs.fin hs)
      have HLG := hid (lg_any s (i + 1) W C hs)
      have hz2 : (fnd s (i + 1) W C).length = 0 → lastF (fnd s (i + 1) W C) = (0, 0) := fun h => by rw [List.eq_nil_of_length_eq_zero h]; rfl
      have hlit := leftZ_lit s W C i hlt
      have hmat := leftZ_match s W C i hlt
      have hbd := lastF_bound s i W C
      have hth := lastF_three s i W C
      unfold waits at hlit hmat
      have hfi := fnd_lt s i W C hlt
      rw [← hfi] at hlit hmat hbd hth
      have HNX := hid (fun (j : Nat) (h : j = i + 1) => (by subst h; exact ⟨rfl, rfl⟩ : fnd s j W C = fnd s (i + 1) W C ∧ lastF (fnd s j W C) = lastF (fnd s (i + 1) W C)))
      have hx2 : ∃ n2 d2, lastF (fnd s (i + 1) W C) = (n2, d2) := ⟨_, _, rfl⟩
      obtain ⟨n2, d2, hx2⟩ := hx2
      have hx : ∃ n d, lastF (fnd s i W C) = (n, d) := ⟨_, _, rfl⟩
      obtain ⟨n, d, hx⟩ := hx
      rw [hx2] at HLG hz2 hlit hmat
      rw [hx] at hL hlit hmat hbd hth
      dsimp only at HLG hlit hmat hbd hth
      by_cases h0 : 0 < (fnd s i W C).length
      · have hd0 : decide (0 < (fnd s i W C).length) = true := by simpa using h0
        obtain ⟨b1, b2, b3, b4, b5⟩ := hbd h0
        have hth := hth h0
        by_cases hlt2 : n < n2
        · have hd2 : decide (0 < (fnd s (i + 1) W C).length) = true := by
            have : (fnd s (i + 1) W C).length ≠ 0 := fun h => by have := hz2 h; simp at this; omega
            simp; omega
          rw [hlit (.inr hlt2), hget] at hleft
          have HF := hid hleft
          have HX := hid hx2
          have HD2 := hid hd2
          rw [hd0]
          rw [hd2] at HLG
          clear hleft hlit hmat hbd hz2 hfi hd0 hd2 h0 hx2 hx HNX
          go_wp2_with (first | (go_at_call 47; refine HN.out.mono ?_; rintro z w3 ⟨r, rc, rfl, hS3, hNL⟩; obtain ⟨q', c', hL3⟩ := hL.step hpl hNL) | (go_at_call 46; refine (HLG.out _ _ _ hS3).mono ?_; rintro z w4 ⟨rfl, hs4⟩; have hL4 := (hL3.same hs4).same ((Keeps.refl (fun _ => False) w4).alloc (.cells #[i6 n2, i6 d2] 98)); have e0 := hL4.blk.cell 0; have e1 := hL4.blk.cell 1; have ef := hL4.blk.frozen; have el := hL4.blk.lt; simp only [List.getElem?_toArray, List.getElem?_cons_succ, List.getElem?_cons_zero] at e0 e1) | (at_builtin; refine wpList_push _ rfl (.tmp 46) (.tmp 51) 28 rfl 39 i0 (.agg #[.int .i64 0, .int .i64 0, .int .i64 0, .int .u8 0]) 4 32 Tryz.underlying28 HI zP (by decide) q1 ol.length c1 (cellsP ol) ?_ ?_ ⟨w4.heap.size + 1, 0, none⟩ 1 1 (Pk.cells ⟨1, 0, 0, s[i]⟩) ?_ rfl ?_ (pk_one _ _ _ _) H1 H2 ?_; exact rfl; exact hL4.gs.pks.own.alloc _; exact rfl; exact cells_four_at (by simp); intro q2 c2 w6 hown6 hk6 hat6 _; have hL6 := hL4.push (pk := ⟨1, 0, 0, s[i]⟩) hown6 hk6 hat6; have hb6 := Blk.keeps ((Blk.new w4 #[i6 n2, i6 d2] 98).alloc _) hk6 (fun e => by have := hL3.gs.pks.lt _ e; have := hs4.size; omega); have g0 := hb6.cell 0; have g1 := hb6.cell 1; have m0 := hL6.blk.cell 0; have m1 := hL6.blk.cell 1; have mf := hL6.blk.frozen; have ml := hL6.blk.lt; simp only [List.getElem?_toArray, List.getElem?_cons_succ, List.getElem?_cons_zero] at g0 g1 m0 m1; clear hown6 hk6 hat6))
          exact ⟨⟨i + 1, q', c', q2, c2, ol ++ [⟨1, 0, 0, s[i]⟩], by simp, by rw [HD2.out], by go_num, by rw [HX.out]; exact hL6.put (n2, d2), by rw [List.append_assoc]; exact HF.out, by omega, by simp; omega⟩, by simp [intOf]; omega⟩
        · rw [hmat (by omega)] at hleft
          have HF := hid hleft
          have HB := hid (show i + n ≤ s.length ∧ 3 ≤ n ∧ 1 ≤ d by omega)
          rw [hd0]
          have hdd : ∃ o2, decide (0 < (fnd s (i + 1) W C).length) = o2 := ⟨_, rfl⟩
          obtain ⟨o2, ho2⟩ := hdd
          rw [ho2] at HLG
          have hn2 : decide (n < n2) = false := by simpa using hlt2
          clear hleft hlit hmat hbd hz2 hfi hd0 h0 hx2 hx HNX ho2
          cases o2
          all_goals
            go_wp2_with (first | (go_at_call 47; refine HN.out.mono ?_; rintro z w3 ⟨r, rc, rfl, hS3, hNL⟩; obtain ⟨q', c', hL3⟩ := hL.step hpl hNL) | (go_at_call 46; refine (HLG.out _ _ _ hS3).mono ?_; rintro z w4 ⟨rfl, hs4⟩; have hL4 := (hL3.same hs4).same ((Keeps.refl (fun _ => False) w4).alloc (.cells #[i6 n2, i6 d2] 98)); have e0 := hL4.blk.cell 0; have e1 := hL4.blk.cell 1; have ef := hL4.blk.frozen; have el := hL4.blk.lt; simp only [List.getElem?_toArray, List.getElem?_cons_succ, List.getElem?_cons_zero] at e0 e1) | (at_builtin; refine wpList_push _ rfl (.tmp 57) (.tmp 63) 28 rfl 39 i0 (.agg #[.int .i64 0, .int .i64 0, .int .i64 0, .int .u8 0]) 4 32 Tryz.underlying28 HI zP (by decide) q1 ol.length c1 (cellsP ol) ?_ ?_ ⟨w4.heap.size + 1, 0, none⟩ 1 1 (Pk.cells ⟨2, d, n, 0⟩) ?_ rfl ?_ (pk_one _ _ _ _) H1 H2 ?_; exact rfl; exact hL4.gs.pks.own.alloc _; exact rfl; exact cells_four_at (by simp); intro q2 c2 w6 hown6 hk6 hat6 _; have hL6 := hL4.push (pk := ⟨2, d, n, 0⟩) hown6 hk6 hat6; have hb6 := Blk.keeps ((Blk.new w4 #[i6 n2, i6 d2] 98).alloc _) hk6 (fun e => by have := hL3.gs.pks.lt _ e; have := hs4.size; omega); have g0 := hb6.cell 0; have g1 := hb6.cell 1; have m0 := hL6.blk.cell 0; have m1 := hL6.blk.cell 1; have mf := hL6.blk.frozen; have ml := hL6.blk.lt; simp only [List.getElem?_toArray, List.getElem?_cons_succ, List.getElem?_cons_zero] at g0 g1 m0 m1; clear hown6 hk6 hat6))
            go_loopw [] (fun wx => ∃ (pl : Nat) (q : Option Addr) (c : Nat), pl ≤ i + n ∧ LS w wx p s W C pl mb q c q2 c2 (ol ++ [⟨2, d, n, 0⟩]) B (n, d)) (fun wx => s.length - plOf wx p)
            case atStart => exact ⟨_, q', c', by have := HB.out; omega, hL6⟩
            case round =>
              clear hL6
              obtain ⟨pl, q9, c9, hpl9, hL9⟩ := hrel
              have hmes := hid (plOf_eq hL9.gs.fin)
              have HPL := hid (chplace_any p s W C pl pl mb c9 q9 wr hL9.gs.fin)
              have HN9 := hid (nx_fin hL9.gs.fin hs)
              have hple : pl ≤ s.length := by have := HB.out; omega
              by_cases hpn : pl < i + n
              · have hpls : pl < s.length := by have := HB.out; omega
                go_wp2_with (first
                  | (go_at_call 45; refine HPL.out.mono ?_; rintro z w8 ⟨rfl, rfl⟩)
                  | (go_at_call 47; refine HN9.out.mono ?_; rintro z w9 ⟨r9, rc9, rfl, _, hNL9⟩; obtain ⟨q8, c8, hL8⟩ := hL9.step hple hNL9; rw [Nat.min_eq_left (show pl + 1 ≤ s.length by omega)] at hL8))
                go_roundw
                case rel => exact ⟨pl + 1, q8, c8, by omega, hL8⟩
                case measure =>
                  have := plOf_eq hL8.gs.fin
                  have := hmes.out
                  omega
              · obtain rfl : pl = i + n := by omega
                have HLG9 := hid (lg_any s (i + n) W C hs)
                have hin : (((i + n : Nat) : Int)) = (i : Int) + n := by omega
                go_wp2_with (first
                  | (go_at_call 45; refine HPL.out.mono ?_; rintro z w8 ⟨rfl, rfl⟩)
                  | (go_at_call 47; refine HN9.out.mono ?_; rintro z w9 ⟨r9, rc9, rfl, hS9, hNL9⟩; obtain ⟨q8, c8, hL8⟩ := hL9.step hple hNL9)
                  | (go_at_call 46; refine (HLG9.out _ _ _ hS9).mono ?_; rintro z w8 ⟨rfl, hs8⟩; have hL7 := hL8.same hs8; have m0 := hL7.blk.cell 0; have m1 := hL7.blk.cell 1; have mf := hL7.blk.frozen; have ml := hL7.blk.lt; simp only [List.getElem?_toArray, List.getElem?_cons_succ, List.getElem?_cons_zero] at m0 m1))
                exact ⟨⟨i + n, q8, c8, q2, c2, ol ++ [⟨2, d, n, 0⟩], by simp, rfl, by go_num, hL7.put (lastF (fnd s (i + n) W C)), by rw [List.append_assoc]; exact HF.out, HB.out.1, by have := HB.out; simp; omega⟩, by have := HB.out; simp [intOf]; omega⟩
      · have hz : (fnd s i W C).length = 0 := by omega
        have hd0 : decide (0 < (fnd s i W C).length) = false := by simpa using h0
        rw [hlit (.inl hz), hget] at hleft
        have HF := hid hleft
        have HX := hid hx2
        rw [hd0]
        clear hleft hlit hmat hbd hz2 hfi hd0 h0 hz hx2 hx HNX hth
        go_wp2_with (first | (go_at_call 47; refine HN.out.mono ?_; rintro z w3 ⟨r, rc, rfl, hS3, hNL⟩; obtain ⟨q', c', hL3⟩ := hL.step hpl hNL) | (go_at_call 46; refine (HLG.out _ _ _ hS3).mono ?_; rintro z w4 ⟨rfl, hs4⟩; have hL4 := (hL3.same hs4).same ((Keeps.refl (fun _ => False) w4).alloc (.cells #[i6 n2, i6 d2] 98)); have e0 := hL4.blk.cell 0; have e1 := hL4.blk.cell 1; have ef := hL4.blk.frozen; have el := hL4.blk.lt; simp only [List.getElem?_toArray, List.getElem?_cons_succ, List.getElem?_cons_zero] at e0 e1) | (at_builtin; refine wpList_push _ rfl (.tmp 46) (.tmp 51) 28 rfl 39 i0 (.agg #[.int .i64 0, .int .i64 0, .int .i64 0, .int .u8 0]) 4 32 Tryz.underlying28 HI zP (by decide) q1 ol.length c1 (cellsP ol) ?_ ?_ ⟨w4.heap.size + 1, 0, none⟩ 1 1 (Pk.cells ⟨1, 0, 0, s[i]⟩) ?_ rfl ?_ (pk_one _ _ _ _) H1 H2 ?_; exact rfl; exact hL4.gs.pks.own.alloc _; exact rfl; exact cells_four_at (by simp); intro q2 c2 w6 hown6 hk6 hat6 _; have hL6 := hL4.push (pk := ⟨1, 0, 0, s[i]⟩) hown6 hk6 hat6; have hb6 := Blk.keeps ((Blk.new w4 #[i6 n2, i6 d2] 98).alloc _) hk6 (fun e => by have := hL3.gs.pks.lt _ e; have := hs4.size; omega); have g0 := hb6.cell 0; have g1 := hb6.cell 1; have m0 := hL6.blk.cell 0; have m1 := hL6.blk.cell 1; have mf := hL6.blk.frozen; have ml := hL6.blk.lt; simp only [List.getElem?_toArray, List.getElem?_cons_succ, List.getElem?_cons_zero] at g0 g1 m0 m1; clear hown6 hk6 hat6))
        exact ⟨⟨i + 1, q', c', q2, c2, ol ++ [⟨1, 0, 0, s[i]⟩], by simp, rfl, by go_num, by rw [HX.out]; exact hL6.put (n2, d2), by rw [List.append_assoc]; exact HF.out, by omega, by simp; omega⟩, by simp [intOf]; omega⟩
    · obtain rfl : i = s.length := by omega
      rw [leftZ_end s W C _ (Nat.le_refl _), List.append_nil] at hleft
      subst hleft
      have HRP := hid (repeat_any q1 c1 (lazyL s W C) wr hL.gs.pks (by omega))
      go_wp2_with ((go_at_call 8; refine HRP.out.mono ?_; rintro z w4 ⟨q4, c4, rfl, hs4, hp4, hg4⟩))
      go_ret
      exact ⟨q4, c4, rfl, hL.gs.sm.trans hs4, hp4⟩
end Go.Proofs.YtalopgbkjgjppaaGreatDoor

/- The walk of the statement LazyParses. -/
namespace Go.Proofs.YtalopgbkjgjppaaGreatDoor
open Go.RowKit Go.Cas

theorem sp14_list : repeatL (lazyL [97, 98, 99, 120, 98, 99, 100, 101, 97, 98, 99, 100, 101] 99 9) =
    [⟨1, 0, 0, 97⟩, ⟨1, 0, 0, 98⟩, ⟨1, 0, 0, 99⟩, ⟨1, 0, 0, 120⟩, ⟨1, 0, 0, 98⟩, ⟨1, 0, 0, 99⟩, ⟨1, 0, 0, 100⟩, ⟨1, 0, 0, 101⟩, ⟨1, 0, 0, 97⟩, ⟨2, 5, 4, 0⟩] := by decide +kernel

end Go.Proofs.YtalopgbkjgjppaaGreatDoor
