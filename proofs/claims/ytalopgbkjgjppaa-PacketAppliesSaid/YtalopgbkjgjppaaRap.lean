/- The walk of the document's Apply. -/
import Derived.Test.YtalopgbkjgjppaaSl
import Derived.Test.YtalopgbkjgjppaaLawA
namespace Go.Proofs.Ytalopgbkjgjppaa
open Go.RowKit Go.Cas

set_option maxHeartbeats 4000000 in
set_option maxRecDepth 100000 in
theorem rapply_any (q : Option Addr) (cap : Nat) (l : List Pk) (most : Int) (w : World) (hl : RPks w q cap l) (hM0 : -9223372036854775808 ≤ most) (hM : most ≤ 9223372036854775807) (hn : l.length ≤ 100000000) :
    Calls Try.prog 15 #[.slice q l.length cap, i6 most] w fun z w' =>
      z = .returned (.tuple #[.string ⟨(applyL l most).1.toArray⟩, i6 (applyL l most).2]) ∧ Same w w' := by
  obtain ⟨i0, HI⟩ := info_hid Try.infoB
  go_enter Try.func15, Try.ntmps15
  go_upto_if 16 with fail
  go_cut [1] (fun v wx => v = i6 (most.toNat : Int) ∧ wx = w)
  case first =>
    go_wp2_with fail
    all_goals go_meet
    · exact ⟨by congr 1; omega, rfl⟩
    · exact ⟨by congr 1; omega, rfl⟩
  case rest =>
    obtain ⟨rfl, hwc⟩ := hcut
    rw [hwc]
    have hT : applyGo most.toNat l [] (1, 1, 1, 1) = applyL l most := rfl
    have hMM : most.toNat ≤ 9223372036854775807 := by omega
    obtain ⟨T, hTl⟩ : ∃ T, applyL l most = T := ⟨_, rfl⟩
    rw [hTl] at hT
    replace hTl := hid hTl
    generalize most.toNat = M at *
    clear hM hM0 hwc
    go_wp2_with fail
    have hR : Blk (w.alloc (.cells (rc4 (1, 1, 1, 1)) 43)) w.heap.size (rc4 (1, 1, 1, 1)) 43 := Blk.new _ _ _
    have hS : Same w (w.alloc (.cells (rc4 (1, 1, 1, 1)) 43)) := (Keeps.refl _ _).alloc _
    generalize hRe : w.heap.size = R at *
    go_loopw [7, 8] (fun v i wr => ∃ k : Nat, k ≤ l.length ∧ i = i6 k ∧ ∃ bs q1 c1 r, v = .slice q1 bs.length c1 ∧ Bys wr q1 c1 bs ∧ Blk wr R (rc4 r) 43 ∧ ¬ sblk q1 R ∧ (∀ b, sblk q1 b → w.heap.size ≤ b) ∧ Same w wr ∧ bs.length ≤ 273 * k ∧ bs.length ≤ M ∧ rok r ∧
      applyGo M (l.drop k) bs r = T) (fun _ i _ => l.length - (intOf i).toNat)
    case atStart => exact ⟨0, Nat.zero_le _, rfl, [], none, 0, (1, 1, 1, 1), rfl, Sl.nil _ _ _, hR, by simp [sblk], by simp [sblk], hS, by simp, by simp, by simp [rok], hT⟩
    case round =>
      obtain ⟨k, hk, rfl, bs, q1, c1, r, rfl, hw, hr, hne, hge, hsm, hlen, hlM, hok, hfin⟩ := hrel
      clear hR hS
      by_cases hlt : k < l.length
      · obtain ⟨g, rfl⟩ := hl.ex (by omega)
        have hget : l[k]? = some l[k] := by simp [hlt]
        have hdrop : l.drop k = l[k] :: l.drop (k + 1) := List.drop_eq_getElem_cons hlt
        rw [hdrop] at hfin
        generalize l[k] = pkt at *
        obtain ⟨pk_, pd, pl, py⟩ := pkt
        have hat := rpks_at (hl.same hsm) k _ hget
        dsimp only at hat
        have hgl : g < wr.heap.size := (hl.same hsm).lt g rfl
        have H1 := hid (show bs.length + 1 ≤ maxLen by unfold maxLen; omega)
        have H2 := hid (show (bs.length + 1) * 1 ≤ 140737488355328 by omega)
        by_cases hk1 : pk_ = 1
        · subst hk1
          by_cases hpl : pd = 0 ∧ pl = 0
          · obtain ⟨rfl, rfl⟩ := hpl
            simp only [applyGo, and_self, if_true] at hfin
            by_cases hfull : bs.length < M
            · rw [if_pos hfull] at hfin
              have HU := hid hfin
              clear hfin hdrop hget
              go_wp2_with ((at_builtin; refine wpList_push _ rfl (.tmp 43) (.tmp 46) 83 rfl 5 i0 (.int .u8 0) 1 1 Try.underlying83 HI rfl (by decide) q1 bs.length c1 (bs.map b8) ?_ ?_ ⟨wr.heap.size + 1, 0, none⟩ 1 1 [b8 py] ?_ rfl ?_ (b8_one py) H1 H2 ?_; exact rfl; exact (hw.own.alloc _).alloc _; exact rfl; exact cell_one_at (by simp); intro q2 c2 w6 hown6 hk6 hat6 _; have HR := hid (Sl.push (hsm.alloc _) hge hown6 hk6 hat6); have HB := hid ((hr.alloc _).alloc _ |>.keeps hk6 hne); clear hown6 hk6 hat6))
              obtain ⟨r1, r2, r3, r4, r5⟩ := HR.out
              have hrl := hr.lt
              go_roundw
              case rel => exact ⟨k + 1, by omega, by go_num, bs ++ [py], q2, c2, r, by simp, (by show Sl _ _ _ _ _ _ _; rw [List.map_append, List.length_append]; exact r1), HB.out, r5 R (by simp; omega) hne, r2, r3, by simp; omega, by simp; omega, hok, HU.out⟩
              case measure => simp [intOf]; omega
            · rw [if_neg hfull] at hfin
              have HU := hid hfin
              clear hfin hdrop hget
              go_wp2_with fail
              go_ret2
              exact ⟨by rw [hTl.out, ← HU.out]; rfl, hsm.alloc _⟩
          · rw [applyGo_odd _ _ _ _ _ rfl hpl] at hfin
            have HU := hid hfin
            replace hpl := hid hpl
            clear hfin hdrop hget
            go_wp2_with fail
            all_goals first
              | (exfalso; apply hpl.out; simp_all; done)
              | (go_ret2
                 exact ⟨by rw [hTl.out, ← HU.out]; rfl, hsm.alloc _⟩)
        · rw [applyGo_copy _ _ _ _ _ hk1 hok] at hfin
          have HBD := (back_fits pk_ pd pl py.toNat bs.length r.1 r.2.1 r.2.2.1 r.2.2.2 hk1 hok.1 hok.2.1 hok.2.2.1 hok.2.2.2).2
          dsimp only at hfin
          have HC := hid (back_any pk_ pd pl py.toNat bs.length r.1 r.2.1 r.2.2.1 r.2.2.2)
          generalize backL pk_ pd pl py.toNat bs.length r.1 r.2.1 r.2.2.1 r.2.2.2 = x at hfin HC HBD
          obtain ⟨x0, x1, ⟨y0, y1, y2, y3⟩, ok⟩ := x
          obtain ⟨r0, r1, r2, r3⟩ := r
          dsimp only at hfin HC HBD hr
          have hr' := hr.four
          have hrl := hr.lt
          clear hdrop hget
          have HU := hid hfin
          clear hfin
          cases ok with
          | false =>
            clear HBD
            go_wp2_with ((go_at_call 43; refine (HC.out _).mono ?_; rintro z w3 ⟨rfl, hs3⟩))
            go_ret2
            exact ⟨by rw [hTl.out, ← HU.out]; rfl, ((hsm.alloc _).trans hs3).alloc _⟩
          | true =>
            obtain ⟨_, b1, b2, b3, b4, hok2⟩ := HBD rfl
            clear HBD
            obtain ⟨d0, rfl⟩ : ∃ d0 : Nat, x0 = d0 := ⟨x0.toNat, by omega⟩
            obtain ⟨n0, rfl⟩ : ∃ n0 : Nat, x1 = n0 := ⟨x1.toNat, by omega⟩
            by_cases hm : (n0 : Int) ≤ (M : Int) - bs.length
            · have HV := HU.out
              rw [if_pos rfl, if_pos hm] at HV
              simp only [Int.toNat_natCast] at HV
              replace HU := hid HV
              clear HV
              go_wp2_with ((go_at_call 43; refine (HC.out _).mono ?_; rintro z w3 ⟨rfl, hs3⟩))
              have e0 : wr.heap.size < w3.heap.size := by have := hs3.size; simp at this; omega
              have hB12 : Blk (w3.alloc (.cells #[i6 y0, i6 y1, i6 y2, i6 y3] 43)) w3.heap.size #[i6 y0, i6 y1, i6 y2, i6 y3] 43 := Blk.new _ _ _
              have hr3 : Blk (w3.alloc (.cells #[i6 y0, i6 y1, i6 y2, i6 y3] 43)) R (rc4 (r0, r1, r2, r3)) 43 := ((hr.alloc _).keeps hs3 (fun h => h)).alloc _
              have hw3 : Bys (w3.alloc (.cells #[i6 y0, i6 y1, i6 y2, i6 y3] 43)) q1 c1 bs := ((hw.same ((Keeps.refl _ _).alloc _)).same hs3).same ((Keeps.refl _ _).alloc _)
              have hsm3 : Same w (w3.alloc (.cells #[i6 y0, i6 y1, i6 y2, i6 y3] 43)) := ((hsm.alloc _).trans hs3).alloc _
              have hq12 : ¬ sblk q1 w3.heap.size := fun e => by have := hw.lt _ e; omega
              have hR12 : R ≠ w3.heap.size := by omega
              clear hat hw hr hr' hs3
              generalize w3.heap.size = B12 at *
              go_loopw [7, 14] (fun v i wx => ∃ j : Nat, j ≤ n0 ∧ i = i6 j ∧ ∃ q2 c2 N, v = .slice q2 N c2 ∧ N = bs.length + j ∧ Sl 5 1 wx q2 c2 N ((copyL bs d0 j).map b8) ∧ Blk wx B12 #[i6 y0, i6 y1, i6 y2, i6 y3] 43 ∧ Blk wx R (rc4 (r0, r1, r2, r3)) 43 ∧
                ¬ sblk q2 R ∧ ¬ sblk q2 B12 ∧ (∀ b, sblk q2 b → w.heap.size ≤ b) ∧ Same w wx) (fun _ i _ => n0 - (intOf i).toNat)
              case atStart => exact ⟨0, Nat.zero_le _, rfl, q1, c1, bs.length, rfl, rfl, hw3, hB12, hr3, hne, hq12, hge, hsm3⟩
              case round =>
                clear hw3 hB12 hr3 hsm3 hq12
                obtain ⟨j, hj, rfl, q2, c2, N, rfl, hN, hw, hb, hr, hne2, hnb2, hge2, hsm2⟩ := hrel
                by_cases hjn : j < n0
                · have hlen2 := copyL_length bs d0 j
                  have HS := hid (show copyL bs d0 (j + 1) = copyL bs d0 j ++ [(copyL bs d0 j)[(copyL bs d0 j).length - d0]?.getD 0] from rfl)
                  generalize copyL bs d0 j = cs at *
                  obtain rfl : N = cs.length := by omega
                  have hld : cs.length - d0 < cs.length := by omega
                  have H1 := hid (show cs.length + 1 ≤ maxLen by unfold maxLen; omega)
                  have H2 := hid (show (cs.length + 1) * 1 ≤ 140737488355328 by omega)
                  have hbyte : cs[cs.length - d0]?.getD 0 = cs[cs.length - d0] := by simp [hld]
                  rw [hbyte] at HS
                  obtain ⟨g2, rfl⟩ := hw.ex (by omega)
                  have r1 := bys_at hw _ hld
                  generalize cs[cs.length - d0] = x at HS hbyte r1
                  have s0 : cs.length ≤ 1000000000000 := by omega
                  have s1 : IntKind.i64.wrap ((cs.length : Int) - (d0 : Int)) = (cs.length : Int) - (d0 : Int) := IntWalk.i64_in _ (by omega)
                  have s2 : (0 : Int) ≤ (cs.length : Int) - (d0 : Int) := by omega
                  have s3 : (cs.length : Int) - (d0 : Int) < (cs.length : Int) := by omega
                  have s4 : ((cs.length : Int) - (d0 : Int)).toNat = cs.length - d0 := by omega
                  have hgl2 : g2 < wr.heap.size := hw.lt _ rfl
                  have hL := hid hlen2
                  clear hlen2 hN hbyte
                  go_wp2_with ((at_builtin; refine wpList_push _ rfl (.tmp 71) (.tmp 79) 83 rfl 5 i0 (.int .u8 0) 1 1 Try.underlying83 HI rfl (by decide) (some ⟨g2, 0, none⟩) cs.length c2 (cs.map b8) ?_ ?_ ⟨wr.heap.size, 0, none⟩ 1 1 [b8 x] ?_ rfl ?_ (b8_one x) H1 H2 ?_; exact rfl; exact (hw.own.alloc _); exact rfl; exact cell_one_at (by simp); intro q3 c3 w6 hown6 hk6 hat6 _; have HR := hid (Sl.push hsm2 hge2 hown6 hk6 hat6); have HB1 := hid ((hb.alloc _).keeps hk6 hnb2); have HB2 := hid ((hr.alloc _).keeps hk6 hne2); clear hown6 hk6 hat6))
                  obtain ⟨t1, t2, t3, t4, t5⟩ := HR.out
                  have l1 := hb.lt
                  have l2 := hr.lt
                  exact ⟨⟨j + 1, by omega, by go_num, q3, c3, cs.length + 1, rfl, by have := hL.out; omega, (by rw [HS.out, List.map_append]; exact t1), HB1.out, HB2.out, t5 R l2 hne2, t5 B12 l1 hnb2, t2, t3⟩, by simp [intOf]; omega⟩
                · obtain rfl : j = n0 := by omega
                  have f1 := hb.four
                  have f2 := hr.four
                  have l1 := hb.lt
                  have l2 := hr.lt
                  have hcl := copyL_length bs d0 j
                  clear hjn
                  go_wp2_with fail
                  have K4 := Keeps.set4 wr R (i6 y0) (i6 y1) (i6 y2) (i6 y3)
                  refine ⟨⟨k + 1, by omega, by go_num, copyL bs d0 j, q2, c2, (y0, y1, y2, y3), by rw [hcl, hN], ?_, hr.set4 _ _ _ _, hne2, hge2, hsm2.trans' K4 fun b hb hf => by omega, by omega, by omega, hok2, HU.out⟩, by simp [intOf]; omega⟩
                  show Sl _ _ _ _ _ _ _
                  rw [hcl, ← hN]
                  exact hw.keeps K4 fun b hb e => hne2 (e ▸ hb)
            · have HV := HU.out
              rw [if_pos rfl, if_neg hm] at HV
              replace HU := hid HV
              clear HV
              go_wp2_with ((go_at_call 43; refine (HC.out _).mono ?_; rintro z w3 ⟨rfl, hs3⟩))
              go_ret2
              exact ⟨by rw [hTl.out, ← HU.out]; rfl, ((hsm.alloc _).trans hs3).alloc _⟩
      · obtain rfl : k = l.length := by omega
        simp only [List.drop_length, applyGo] at hfin
        have HU := hid hfin
        clear hfin
        have hcv : (convert 83 9 (.slice q1 bs.length c1)).run Try.prog wr = .ok (.string ⟨bs.toArray⟩) wr := by
          rcases Nat.eq_zero_or_pos bs.length with hz | hz
          · obtain rfl : bs = [] := List.eq_nil_of_length_eq_zero hz
            rcases hw.own.2 with ⟨h1, _⟩ | ⟨g, c, cur, h1, _⟩
            · simp at h1
              obtain ⟨rfl, rfl⟩ := h1
              exact run_convert_bytes_nil wr 83 5 Try.underlying83 Try.underlying5 _ _ 9 Try.underlying9
            · simp at h1
              obtain ⟨rfl, rfl⟩ := h1
              exact run_convert_bytes_back wr 83 9 5 _ _ [] Try.underlying83 Try.underlying5 Try.underlying9 fun j hj => by simp at hj
          · obtain ⟨g, rfl⟩ := hw.ex hz
            exact run_convert_bytes_back wr 83 9 5 _ _ bs Try.underlying83 Try.underlying5 Try.underlying9 fun j hj => hw.own.cells rfl j _ (b8_get bs j hj)
        go_wp2_with fail
        go_ret2
        exact ⟨by rw [hTl.out, ← HU.out]; rfl, hsm⟩
end Go.Proofs.Ytalopgbkjgjppaa
