/- The walk of the document's Repeat. -/
import Derived.Test.YtalopgbkjgjppaaSl
import Derived.Test.YtalopgbkjgjppaaRf
namespace Go.Proofs.Ytalopgbkjgjppaa
open Go.RowKit Go.Cas

theorem dist_cases (k d a b c e : Int) :
    (distL k d a b c e = (0, (a, b, c, e), false) ∧ (k == 2) = false ∧ ((k == 3) = false ∧ ¬ k = 3 ∨ k = 3 ∧ (d < 0 ∨ 3 < d))) ∨
    ∃ x0 c0 c1 c2 c3, distL k d a b c e = (x0, (c0, c1, c2, c3), true) ∧
      ((k = 2 ∧ x0 = d ∧ c0 = d ∧ c1 = a ∧ c2 = b ∧ c3 = c) ∨ (k = 3 ∧ 0 ≤ d ∧ d < 4 ∧ x0 = (if d = 0 then a else if d = 1 then b else if d = 2 then c else e) ∧ frontL a b c e d = (c0, c1, c2, c3))) := by
  unfold distL
  by_cases h2 : k = 2
  · subst h2; exact .inr ⟨_, _, _, _, _, by rw [if_pos rfl], .inl ⟨rfl, rfl, rfl, rfl, rfl, rfl⟩⟩
  by_cases h3 : k = 3 ∧ 0 ≤ d ∧ d < 4
  · rw [if_neg h2, if_pos h3]
    exact .inr ⟨_, _, _, _, _, rfl, .inr ⟨h3.1, h3.2.1, h3.2.2, rfl, rfl⟩⟩
  · rw [if_neg h2, if_neg h3]
    refine .inl ⟨rfl, by simpa using h2, ?_⟩
    by_cases hk : k = 3
    · exact .inr ⟨hk, by omega⟩
    · exact .inl ⟨by simpa using hk, hk⟩

/-- The first place of x, looked at from the last place down: j places seen. -/
def atL (a b c d x : Int) : Nat → Int
  | 0 => -1
  | 1 => if d = x then 3 else -1
  | 2 => if c = x then 2 else if d = x then 3 else -1
  | 3 => if b = x then 1 else if c = x then 2 else if d = x then 3 else -1
  | _ => if a = x then 0 else if b = x then 1 else if c = x then 2 else if d = x then 3 else -1

theorem atL_find (a b c d x : Int) : atL a b c d x 4 = if (findL a b c d x).2 then (findL a b c d x).1 else -1 := by
  by_cases h0 : a = x <;> by_cases h1 : b = x <;> by_cases h2 : c = x <;> by_cases h3 : d = x <;> simp [atL, findL, h0, h1, h2, h3]

theorem find_in (a b c d x : Int) : 0 ≤ (findL a b c d x).1 ∧ (findL a b c d x).1 < 4 := by
  unfold findL
  split <;> (try split) <;> (try split) <;> (try split) <;> exact ⟨by decide, by decide⟩

set_option maxHeartbeats 4000000 in
set_option maxRecDepth 100000 in
theorem rrepeat_any (q : Option Addr) (cap : Nat) (l : List Pk) (w : World) (hl : RPks w q cap l) (hn : l.length ≤ 100000000) :
    Calls Try.prog 17 #[.slice q l.length cap] w fun z w' =>
      ∃ q' c', z = .returned (.slice q' (repeatL l).length c') ∧ Same w w' ∧ RPks w' q' c' (repeatL l) ∧ ∀ b, sblk q' b → w.heap.size ≤ b := by
  obtain ⟨i0, HI⟩ := info_hid Try.infoR
  go_enter Try.func17, Try.ntmps17
  go_wp2_with fail
  have hR : Blk ((w.alloc (.cells (rc4 (1, 1, 1, 1)) 43)).alloc (.cells (rc4 (1, 1, 1, 1)) 43)) w.heap.size (rc4 (1, 1, 1, 1)) 43 := (Blk.new _ _ _).alloc _
  have hN : Blk ((w.alloc (.cells (rc4 (1, 1, 1, 1)) 43)).alloc (.cells (rc4 (1, 1, 1, 1)) 43)) (w.heap.size + 1) (rc4 (1, 1, 1, 1)) 43 := Blk.new_at (by simp)
  have hS : Same w ((w.alloc (.cells (rc4 (1, 1, 1, 1)) 43)).alloc (.cells (rc4 (1, 1, 1, 1)) 43)) := ((Keeps.refl _ _).alloc _).alloc _
  have hBP : w.heap.size ≤ w.heap.size := Nat.le_refl _
  generalize hBe : w.heap.size = B at hR hN
  go_loopw [5, 6] (fun v i wr => ∃ k : Nat, k ≤ l.length ∧ i = i6 k ∧ ∃ q1 c1 ol was now, v = .slice q1 k c1 ∧ ol.length = k ∧ RPks wr q1 c1 ol ∧ Blk wr B (rc4 now) 43 ∧ Blk wr (B + 1) (rc4 was) 43 ∧
      ¬ sblk q1 B ∧ ¬ sblk q1 (B + 1) ∧ (∀ b, sblk q1 b → w.heap.size ≤ b) ∧ Same w wr ∧ ol ++ repeatGo (l.drop k) was now = repeatL l) (fun _ i _ => l.length - (intOf i).toNat)
  case atStart => exact ⟨0, Nat.zero_le _, rfl, none, 0, [], (1, 1, 1, 1), (1, 1, 1, 1), rfl, rfl, Sl.nil _ _ _, hR, hN, by simp [sblk], by simp [sblk], by simp [sblk], hS, rfl⟩
  case round =>
    obtain ⟨k, hk, rfl, q1, c1, ol, was, now, rfl, rfl, hpk, hnw, hw, hn1, hn2, hge, hsm, hfin⟩ := hrel
    clear hR hN hS
    by_cases hlt : ol.length < l.length
    · obtain ⟨g, rfl⟩ := hl.ex (by omega)
      have H1 := hid (show ol.length + 1 ≤ maxLen by unfold maxLen; omega)
      have H2 := hid (show (ol.length + 1) * 32 ≤ 140737488355328 by omega)
      have hget : l[ol.length]? = some l[ol.length] := by simp [hlt]
      have hdrop : l.drop ol.length = l[ol.length] :: l.drop (ol.length + 1) := List.drop_eq_getElem_cons hlt
      rw [hdrop] at hfin
      generalize l[ol.length] = pkt at *
      obtain ⟨pk_, pd, pl, py⟩ := pkt
      obtain ⟨a0, a1, a2, a3⟩ := was
      obtain ⟨b0, b1, b2, b3⟩ := now
      have hat := rpks_at (hl.same hsm) ol.length _ hget
      dsimp only at hat hw hnw
      have hgl : g < wr.heap.size := (hl.same hsm).lt g rfl
      simp only [repeatGo] at hfin
      clear hdrop hget
      rcases dist_cases pk_ pd a0 a1 a2 a3 with ⟨hD, hd2, hd3⟩ | ⟨x0, c0, c1_, c2_, c3_, hD, hor⟩
      · rw [hD] at hfin
        simp only [Bool.false_eq_true, if_false] at hfin
        have HF := hid hfin
        have hd2' : (pk_ != 2) = true := by simpa using hd2
        clear hfin hD
        go_upto_region 7 with fail
        go_cut [45] (fun s45 wx => s45 = .bool true ∧ wx = wr.alloc (.cells #[i6 pk_, i6 pd, i6 pl, b8 py] 28))
        case first =>
          rcases hd3 with ⟨hd3, hd4⟩ | ⟨rfl, hd3 | hd3⟩
          all_goals
            go_wp2_with fail
            all_goals first
              | (go_meet; exact ⟨rfl, rfl⟩)
              | (exfalso; omega)
              | exact absurd hd2 (by decide)
        case rest =>
          obtain ⟨rfl, rfl⟩ := hcut
          clear hd2 hd2' hd3
          go_wp2_with ((at_builtin; refine wpList_push _ rfl (.tmp 46) (.tmp 48) 25 rfl 28 i0 (.agg #[.int .i64 0, .int .i64 0, .int .i64 0, .int .u8 0]) 4 32 Try.underlying25 HI zP (by decide) q1 ol.length c1 (cellsP ol) ?_ ?_ ⟨wr.heap.size + 1, 0, none⟩ 1 1 [i6 pk_, i6 pd, i6 pl, b8 py] ?_ rfl ?_ (pk_one _ _ _ _) H1 H2 ?_; exact rfl; exact (hpk.own.alloc _).alloc _; exact rfl; exact cells_four_at (by simp); intro q2 c2 w6 hown6 hk6 hat6 _; have HR := hid (Sl.push (hsm.alloc _) hge hown6 hk6 hat6); have HB1 := hid (((hnw.alloc _).alloc _).keeps hk6 hn1); have HB2 := hid (((hw.alloc _).alloc _).keeps hk6 hn2); clear hown6 hk6 hat6))
          obtain ⟨t1, t2, t3, t4, t5⟩ := HR.out
          have l1 := hnw.lt
          have l2 := hw.lt
          go_roundw
          case rel => exact ⟨ol.length + 1, by omega, by go_num, q2, c2, ol ++ [⟨pk_, pd, pl, py⟩], (a0, a1, a2, a3), (b0, b1, b2, b3), rfl, by simp, (by show Sl _ _ _ _ _ _ _; rw [cellsP_snoc, List.length_append]; exact t1), HB1.out, HB2.out, t5 B (by simp; omega) hn1, t5 (B + 1) (by simp; omega) hn2, t2, t3, by rw [List.append_assoc]; exact HF.out⟩
          case measure => simp [intOf]; omega
      · rw [hD] at hfin
        simp only [if_true] at hfin
        have HF := hid hfin
        clear hfin hD
        go_upto_region 7 with fail
        go_cut [45] (fun s45 wx => s45 = .bool false ∧ wx = wr.alloc (.cells #[i6 pk_, i6 pd, i6 pl, b8 py] 28))
        case first =>
          rcases hor with ⟨rfl, _⟩ | ⟨rfl, hd1, hd2, _⟩
          all_goals
            go_wp2_with fail
            all_goals first
              | (go_meet; exact ⟨by first | rfl | (simp; omega), rfl⟩)
              | (exfalso; omega)
        case rest =>
          obtain ⟨rfl, rfl⟩ := hcut
          have hX : Blk (wr.alloc (.cells #[i6 pk_, i6 pd, i6 pl, b8 py] 28)) wr.heap.size #[i6 pk_, i6 pd, i6 pl, b8 py] 28 := Blk.new _ _ _
          have hw1 := hw.alloc (.cells #[i6 pk_, i6 pd, i6 pl, b8 py] 28)
          have hnw1 := hnw.alloc (.cells #[i6 pk_, i6 pd, i6 pl, b8 py] 28)
          have hpk1 := hpk.same ((Keeps.refl (fun _ => False) wr).alloc (.cells #[i6 pk_, i6 pd, i6 pl, b8 py] 28))
          have hsm1 := hsm.alloc (.cells #[i6 pk_, i6 pd, i6 pl, b8 py] 28)
          have lB := hnw.lt
          have lO := hw.lt
          have lq := hpk.lt
          generalize wr.alloc (.cells #[i6 pk_, i6 pd, i6 pl, b8 py] 28) = W at *
          have hX4 := hX.four
          go_upto_if 54 with fail
          go_cut [8] (fun s8 wx => s8 = i6 x0 ∧ Blk wx (B + 1) (rc4 (c0, c1_, c2_, c3_)) 43 ∧ Keeps (fun b => b = B + 1) W wx)
          case first =>
            have hw4 := hw1.four
            rcases hor with ⟨rfl, rfl, rfl, rfl, rfl, rfl⟩ | ⟨rfl, hd1, hd2, hx0, hfr⟩
            · go_wp2_with ((go_at_call 21; refine (rpush_any _ _ _ _ _ _).mono ?_; rintro z w3 ⟨rfl, hs3⟩; have hf := (hw1.keeps hs3 (fun h => h)).four))
              go_meet
              exact ⟨rfl, (hw1.keeps hs3 (fun h => h)).set4 _ _ _ _, (hs3.mono fun _ _ h => h.elim).trans' (Keeps.set4 _ _ _ _ _ _) fun _ _ h => h⟩
            · have hcell : W.cell? ⟨B + 1, pd.toNat, none⟩ = some (i6 x0) := by
                obtain rfl | rfl | rfl | rfl : pd = 0 ∨ pd = 1 ∨ pd = 2 ∨ pd = 3 := by omega
                all_goals (simp at hx0; subst hx0)
                · exact hw4.1
                · exact hw4.2.1
                · exact hw4.2.2.1
                · exact hw4.2.2.2.1
              clear hx0
              have HFR := hid (rfront_any a0 a1 a2 a3 pd)
              rw [hfr] at HFR
              go_wp2_with ((go_at_call 23; refine (HFR.out _).mono ?_; rintro z w3 ⟨rfl, hs3⟩; have hf := (hw1.keeps hs3 (fun h => h)).four))
              go_meet
              exact ⟨rfl, (hw1.keeps hs3 (fun h => h)).set4 _ _ _ _, (hs3.mono fun _ _ h => h.elim).trans' (Keeps.set4 _ _ _ _ _ _) fun _ _ h => h⟩
          case rest =>
            obtain ⟨rfl, hw2, hK⟩ := hcut
            have hX2 := hX.keeps hK (by omega)
            have hnw2 := hnw1.keeps hK (by omega)
            have hpk2 := hpk1.keeps hK (fun b hb e => by have := lq b hb; exact hn2 (e ▸ hb))
            have hsm2 : Same w wc := hsm1.trans' hK fun b hb e => by omega
            have lW := hK.size
            have hXl := hX.lt
            clear hor hw1 hnw1 hpk1 hsm1 hX hX4 hK
            have hX4 := hX2.four
            have hn4 := hnw2.four
            dsimp only at hn4
            go_wp2_with fail
            have W0 := hid (rfl : wc = wc)
            go_loopw [9, 10] (fun a i wx => ∃ j : Nat, j ≤ 4 ∧ i = i6 (3 - (j : Int)) ∧ a = i6 (atL b0 b1 b2 b3 x0 j) ∧ wx = wc) (fun _ i _ => (intOf i + 1).toNat)
            case atStart => exact ⟨0, by omega, rfl, rfl, rfl⟩
            case round =>
              obtain ⟨j, hj, rfl, rfl, rfl⟩ := hrel
              by_cases hj4 : j = 4
              · subst hj4
                have hfi := find_in b0 b1 b2 b3 x0
                have e4 := atL_find b0 b1 b2 b3 x0
                generalize findL b0 b1 b2 b3 x0 = F at *
                obtain ⟨fi, fok⟩ := F
                clear hj
                cases fok with
                | true =>
                  simp only [if_true] at e4 HF hfi
                  rw [e4]
                  clear e4
                  have e5 : (distL 3 fi b0 b1 b2 b3).2.1 = frontL b0 b1 b2 b3 fi := by unfold distL; rw [if_neg (by decide), if_pos ⟨rfl, hfi⟩]
                  rw [e5] at HF
                  have HFR := hid (rfront_any b0 b1 b2 b3 fi)
                  generalize frontL b0 b1 b2 b3 fi = ff at *
                  obtain ⟨f0, f1, f2, f3⟩ := ff
                  clear e5
                  dsimp only at HFR
                  go_wp2_with ((first | (at_builtin; refine wpList_push _ rfl (.tmp 78) (.tmp 83) 25 rfl 28 i0 (.agg #[.int .i64 0, .int .i64 0, .int .i64 0, .int .u8 0]) 4 32 Try.underlying25 HI zP (by decide) q1 ol.length c1 (cellsP ol) ?_ ?_ ⟨wr.heap.size, 0, none⟩ 1 1 (Pk.cells ⟨3, fi, pl, 0⟩) ?_ rfl ?_ (pk_one _ _ _ _) H1 H2 ?_; exact rfl; exact hpk2.own.alloc _; exact rfl; exact cells_four_at (by simp); intro q2 c2 w6 hown6 hk6 hat6 _; have HR := hid (Sl.push hsm2 hge hown6 hk6 hat6); have HB1 := (hnw2.alloc _).keeps hk6 hn1; have HB2 := hid ((hw2.alloc _).keeps hk6 hn2); have hb4 := HB1.four; dsimp only at hb4; clear hown6 hk6 hat6) | (go_at_call 23; refine (HFR.out _).mono ?_; rintro z w7 ⟨rfl, hs7⟩; have hb7 := (HB1.keeps hs7 (fun h => h)).four; dsimp only at hb7)))
                  obtain ⟨t1, t2, t3, t4, t5⟩ := HR.out
                  have l1 := hnw2.lt
                  have l2 := hw2.lt
                  have K4 := Keeps.set4 w7 B (i6 f0) (i6 f1) (i6 f2) (i6 f3)
                  have n1 := t5 B l1 hn1
                  have n2 := t5 (B + 1) l2 hn2
                  have l7 := hs7.size
                  have l6 := t3.size
                  refine ⟨⟨ol.length + 1, by omega, by go_num, q2, c2, ol ++ [⟨3, fi, pl, 0⟩], (c0, c1_, c2_, c3_), (f0, f1, f2, f3), rfl, by simp, ?_, (HB1.keeps hs7 (fun h => h)).set4 _ _ _ _, (HB2.out.keeps hs7 (fun h => h)).keeps K4 (by omega), n1, n2, t2, (t3.trans hs7).trans' K4 fun b hb e => by omega, by rw [List.append_assoc]; exact HF.out⟩, by simp [intOf]; omega⟩
                  show Sl _ _ _ _ _ _ _
                  rw [cellsP_snoc, List.length_append]
                  exact (t1.same hs7).keeps K4 fun b hb e => n1 (e ▸ hb)
                | false =>
                  simp only [Bool.false_eq_true, if_false] at e4 HF
                  rw [e4]
                  clear e4 hfi
                  have e5 : (distL 2 x0 b0 b1 b2 b3).2.1 = (x0, b0, b1, b2) := by unfold distL; rw [if_pos rfl]
                  rw [e5] at HF
                  have HFR := hid (rpush_any b0 b1 b2 b3 x0)
                  obtain ⟨f0, f1, f2, f3, h0, h1, h2, h3⟩ : ∃ f0 f1 f2 f3, f0 = x0 ∧ f1 = b0 ∧ f2 = b1 ∧ f3 = b2 := ⟨_, _, _, _, rfl, rfl, rfl, rfl⟩
                  rw [show (x0, b0, b1, b2) = (f0, f1, f2, f3) from by rw [h0, h1, h2, h3]] at HF
                  rw [show rp x0 b0 b1 b2 = rp f0 f1 f2 f3 from by rw [h0, h1, h2, h3]] at HFR
                  clear e5 h0 h1 h2 h3
                  go_wp2_with ((first | (at_builtin; refine wpList_push _ rfl (.tmp 88) (.tmp 93) 25 rfl 28 i0 (.agg #[.int .i64 0, .int .i64 0, .int .i64 0, .int .u8 0]) 4 32 Try.underlying25 HI zP (by decide) q1 ol.length c1 (cellsP ol) ?_ ?_ ⟨wr.heap.size, 0, none⟩ 1 1 (Pk.cells ⟨2, x0, pl, 0⟩) ?_ rfl ?_ (pk_one _ _ _ _) H1 H2 ?_; exact rfl; exact hpk2.own.alloc _; exact rfl; exact cells_four_at (by simp); intro q2 c2 w6 hown6 hk6 hat6 _; have HR := hid (Sl.push hsm2 hge hown6 hk6 hat6); have HB1 := (hnw2.alloc _).keeps hk6 hn1; have HB2 := hid ((hw2.alloc _).keeps hk6 hn2); have hb4 := HB1.four; dsimp only at hb4; clear hown6 hk6 hat6) | (go_at_call 21; refine (HFR.out _).mono ?_; rintro z w7 ⟨rfl, hs7⟩; have hb7 := (HB1.keeps hs7 (fun h => h)).four; dsimp only at hb7)))
                  obtain ⟨t1, t2, t3, t4, t5⟩ := HR.out
                  have l1 := hnw2.lt
                  have l2 := hw2.lt
                  have K4 := Keeps.set4 w7 B (i6 f0) (i6 f1) (i6 f2) (i6 f3)
                  have n1 := t5 B l1 hn1
                  have n2 := t5 (B + 1) l2 hn2
                  have l7 := hs7.size
                  have l6 := t3.size
                  refine ⟨⟨ol.length + 1, by omega, by go_num, q2, c2, ol ++ [⟨2, x0, pl, 0⟩], (c0, c1_, c2_, c3_), (f0, f1, f2, f3), rfl, by simp, ?_, (HB1.keeps hs7 (fun h => h)).set4 _ _ _ _, (HB2.out.keeps hs7 (fun h => h)).keeps K4 (by omega), n1, n2, t2, (t3.trans hs7).trans' K4 fun b hb e => by omega, by rw [List.append_assoc]; exact HF.out⟩, by simp [intOf]; omega⟩
                  show Sl _ _ _ _ _ _ _
                  rw [cellsP_snoc, List.length_append]
                  exact (t1.same hs7).keeps K4 fun b hb e => n1 (e ▸ hb)
              · obtain rfl | rfl | rfl | rfl : j = 0 ∨ j = 1 ∨ j = 2 ∨ j = 3 := by omega
                · clear HF
                  by_cases hb : b3 = x0
                  · go_wp2_with fail
                    exact ⟨⟨1, by omega, by rfl, by simp [atL, hb], trivial⟩, by decide⟩
                  · have hb' : (b3 == x0) = false := by simpa using hb
                    go_wp2_with fail
                    exact ⟨⟨1, by omega, by rfl, by simp [atL, hb], trivial⟩, by decide⟩
                · clear HF
                  by_cases hb : b2 = x0
                  · go_wp2_with fail
                    exact ⟨⟨2, by omega, by rfl, by simp [atL, hb], trivial⟩, by decide⟩
                  · have hb' : (b2 == x0) = false := by simpa using hb
                    go_wp2_with fail
                    exact ⟨⟨2, by omega, by rfl, by simp [atL, hb], trivial⟩, by decide⟩
                · clear HF
                  by_cases hb : b1 = x0
                  · go_wp2_with fail
                    exact ⟨⟨3, by omega, by rfl, by simp [atL, hb], trivial⟩, by decide⟩
                  · have hb' : (b1 == x0) = false := by simpa using hb
                    go_wp2_with fail
                    exact ⟨⟨3, by omega, by rfl, by simp [atL, hb], trivial⟩, by decide⟩
                · clear HF
                  by_cases hb : b0 = x0
                  · go_wp2_with fail
                    exact ⟨⟨4, by omega, by rfl, by simp [atL, hb], trivial⟩, by decide⟩
                  · have hb' : (b0 == x0) = false := by simpa using hb
                    go_wp2_with fail
                    exact ⟨⟨4, by omega, by rfl, by simp [atL, hb], trivial⟩, by decide⟩
    · have hle : ol.length = l.length := by omega
      rw [hle, List.drop_length] at hfin
      simp only [repeatGo, List.append_nil] at hfin
      replace hfin := hid hfin
      go_wp2_with fail
      go_ret
      rw [← hfin.out]
      exact ⟨q1, c1, rfl, hsm, hpk, hge⟩
end Go.Proofs.Ytalopgbkjgjppaa
