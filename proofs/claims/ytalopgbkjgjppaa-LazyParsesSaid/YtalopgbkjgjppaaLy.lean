/- The walk of the statement LazyParses. -/
import Derived.Test.YtalopgbkjgjppaaLp
namespace Go.Proofs.Ytalopgbkjgjppaa
open Go.RowKit Go.Cas

theorem sp14_list : repeatL (lazyL [97, 98, 99, 120, 98, 99, 100, 101, 97, 98, 99, 100, 101] 99 9) =
    [⟨1, 0, 0, 97⟩, ⟨1, 0, 0, 98⟩, ⟨1, 0, 0, 99⟩, ⟨1, 0, 0, 120⟩, ⟨1, 0, 0, 98⟩, ⟨1, 0, 0, 99⟩, ⟨1, 0, 0, 100⟩, ⟨1, 0, 0, 101⟩, ⟨1, 0, 0, 97⟩, ⟨2, 5, 4, 0⟩] := by decide +kernel

set_option maxHeartbeats 2000000 in
set_option maxRecDepth 100000 in
theorem speaks14_any (w : World) : Calls Try.prog 25 #[] w fun z w' => z = .returned (.bool true) ∧ Same w w' := by
  have HG := hid (lparse_any [97, 98, 99, 120, 98, 99, 100, 101, 97, 98, 99, 100, 101] 99 9 w (by decide))
  rw [sp14_list] at HG
  go_enter Try.func25, Try.ntmps25
  go_wp2_with ((go_at_call 27; refine HG.out.mono ?_; rintro z w1 ⟨q, c, rfl, hs1, hp⟩; obtain ⟨g, rfl⟩ := hp.ex (by decide); have a8 := hp.at 8 _ rfl; have a9 := hp.at 9 _ rfl; dsimp only at a8 a9))
  go_ret
  exact ⟨rfl, hs1⟩

set_option maxHeartbeats 4000000 in
set_option maxRecDepth 100000 in
theorem lazy_any (s0 : List UInt8) (W C : Int) (w : World) (hs0 : s0.length ≤ maxLen) :
    Calls Try.prog 7 #[.string ⟨s0.toArray⟩, i6 W, i6 C] w fun e w' => e = .returned (.bool true) ∧ Same w w' := by
  obtain ⟨i0, HI⟩ := info_hid Try.infoR
  go_enter Try.func7, Try.ntmps7
  go_wp2_with fail
  refine (speaks14_any _).mono ?_
  rintro z w1 ⟨rfl, hs1⟩
  go_upto_region 3 with fail
  go_cut [0] (fun v wx => ∃ t : List UInt8, v = .string ⟨t.toArray⟩ ∧ t.length ≤ 160 ∧ Same w wx)
  case first =>
    go_wp2_with fail
    all_goals go_meet
    · exact ⟨s0.take 160, by congr 1; apply ByteArray.ext; simp, by simp; omega, hs1⟩
    · exact ⟨s0, by congr 1; apply ByteArray.ext; simp, by omega, hs1⟩
  case rest =>
    clear hs1
    obtain ⟨s, rfl, ht, hs1⟩ := hcut
    have hs : s.length ≤ 1000000 := by omega
    have hst := leftZ_start s W C
    go_wp2_with fail
    go_loopw [7, 8] (fun v ii wx => ∃ (i : Nat) (q1 : Option Addr) (c1 : Nat) (ol : List Pk), ii = i6 i ∧ v = .slice q1 ol.length c1 ∧ RPks wx q1 c1 ol ∧ (∀ b, sblk q1 b → w.heap.size ≤ b) ∧ Same w wx ∧ ol ++ leftZ s W C i = lazyL s W C ∧ i ≤ s.length ∧ ol.length ≤ i) (fun _ ii _ => s.length - (intOf ii).toNat)
    case atStart => exact ⟨0, none, 0, [], rfl, rfl, Sl.nil _ _ _, by simp [sblk], hs1, hst, by omega, Nat.le_refl _⟩
    case round =>
      clear hst hs1
      obtain ⟨i, q1, c1, ol, rfl, rfl, hpk, hge, hsm, hleft, hil, hoi⟩ := hrel
      by_cases hlt : i < s.length
      · have hget : s[i]? = some s[i] := by simp [hlt]
        have H1 := hid (show ol.length + 1 ≤ maxLen by unfold maxLen; omega)
        have H2 := hid (show (ol.length + 1) * 32 ≤ 140737488355328 by omega)
        have HL := hid (rlongest_any s i W C wr hlt hs)
        have HL2 := hid (fun (h : i + 1 < s.length) w0 => rlongest_any s (i + 1) W C w0 h hs)
        have hlit := leftZ_lit s W C i hlt
        have hmat := leftZ_match s W C i hlt
        have hbd := lastF_bound s i W C
        have hth := lastF_three s i W C
        unfold waits at hlit hmat
        have hfn : ∃ n2 d2, lastF (fnd s (i + 1) W C) = (n2, d2) ∧ (i + 1 < s.length → lastF (foundL s (i + 1) W C) = (n2, d2)) ∧ (¬ i + 1 < s.length → n2 = 0) := by
          by_cases h : i + 1 < s.length
          · rw [fnd_lt s (i + 1) W C h]; exact ⟨_, _, rfl, fun _ => rfl, fun h' => absurd h h'⟩
          · rw [fnd_end s (i + 1) W C (by omega)]; exact ⟨0, 0, rfl, fun h' => absurd h' h, fun _ => rfl⟩
        obtain ⟨n2, d2, hf1, hf2, hf3⟩ := hfn
        rw [hf1] at hlit hmat
        replace HL2 := hid (fun (h : i + 1 < s.length) w0 => (show Calls Try.prog 26 #[.string ⟨s.toArray⟩, i6 ((i + 1 : Nat) : Int), i6 W, i6 C] w0 fun z w' => z = .returned (.agg #[i6 n2, i6 d2]) ∧ Same w0 w' from by have := HL2.out h w0; rw [hf2 h] at this; exact this))
        have hnz : (foundL s i W C).length = 0 → lastF (foundL s i W C) = (0, 0) := fun h => by rw [List.eq_nil_of_length_eq_zero h]; rfl
        generalize foundL s i W C = L at *
        generalize lastF L = x at *
        obtain ⟨n, d⟩ := x
        dsimp only at HL hlit hmat hbd hth
        clear hf1 hf2
        go_upto_region 7 with fail
        go_cut [9] (fun s9 wx => ∃ NB, s9 = .pointer (some ⟨NB, 0, none⟩) ∧ Blk wx NB #[i6 n, i6 d] 56 ∧ wr.heap.size ≤ NB ∧ Same wr wx)
        case first =>
          go_wp2_with ((go_at_call 26; refine HL.out.mono ?_; rintro z w4 ⟨rfl, hs4⟩))
          go_meet
          exact ⟨_, rfl, Blk.new _ _ _, hs4.size, hs4.alloc _⟩
        case rest =>
          obtain ⟨NB, rfl, hNB, hgeN, hs4⟩ := hcut
          have hpk0 := hpk
          replace hpk := hpk.same hs4
          have hnq : ¬ sblk q1 NB := fun e => by have := hge _ e; have := hsm.size; have := hpk0.lt _ e; omega
          replace hsm := hsm.trans hs4
          have eNB := hNB.cell 0
          have lNB := hNB.lt
          simp only [List.getElem?_toArray, List.getElem?_cons_zero] at eNB
          go_upto_region 8 with fail
          go_cut [10] (fun s10 wx => s10 = .bool (decide ((n : Int) < (n2 : Int))) ∧ Same wc wx)
          case first =>
            have hwi : IntKind.i64.wrap ((i : Int) + 1) = (i : Int) + 1 := IntWalk.i64_in _ (by omega)
            by_cases h1 : i + 1 < s.length
            · have hd1 : decide ((i : Int) + 1 < (s.length : Int)) = true := by simp; omega
              replace HL2 := hid (HL2.out h1)
              have hfd : ∀ w : World, (Instr.field 56 (.agg #[i6 n2, i6 d2]) 0).run Try.prog w = .ok (i6 n2) w := fun _ => by kernel_rfl
              clear HL hlit hmat hbd hth hf3 hnz
              refine wp_region_held_drew (S := (fun V => Same wc V)) (by kernel_rfl) (by (try dsimp only); exact (Keeps.refl _ _).drew) (fun hHeld => ?_)
              refine wpAnyH_take (i := 0) (oi := ⟨some 29, _, _, _, _, _⟩) (v := ?v0y) rfl (by kernel_rfl) (by kernel_rfl) (by kernel_rfl) (fun _ _ _ h => h) (Or.inl ⟨by rfl, ?h0y⟩) (by assumption) ?r0y
              case h0y => intro w hSw; (try dsimp only at hSw); go_simp; (try with_reducible rfl)
              try simp only [Act.put, List.setIfInBounds_toArray, List.set_cons_zero, List.set_cons_succ]
              refine wpAnyH_take (i := 1) (oi := ⟨some 30, _, _, _, _, _⟩) (v := ?v1y) rfl (by kernel_rfl) (by kernel_rfl) (by kernel_rfl) (fun _ _ _ h => h) (Or.inl ⟨by rfl, ?h1y⟩) (by assumption) ?r1y
              case h1y => intro w hSw; (try dsimp only at hSw); go_simp; (try with_reducible rfl)
              try simp only [Act.put, List.setIfInBounds_toArray, List.set_cons_zero, List.set_cons_succ]
              refine wpAnyH_take (i := 2) (oi := ⟨some 31, _, _, _, _, _⟩) (v := ?v2y) rfl (by kernel_rfl) (by kernel_rfl) (by kernel_rfl) (fun _ _ _ h => h) (Or.inl ⟨by rfl, ?h2y⟩) (by assumption) ?r2y
              case h2y => intro w hSw; (try dsimp only at hSw); go_simp; (try with_reducible rfl)
              try simp only [Act.put, List.setIfInBounds_toArray, List.set_cons_zero, List.set_cons_succ]
              refine wpAnyH_take (i := 3) (oi := ⟨some 32, _, _, _, _, _⟩) (v := ?v3y) rfl (by kernel_rfl) (by kernel_rfl) (by kernel_rfl) (fun _ _ _ h => h) (Or.inl ⟨by rfl, ?h3y⟩) (by assumption) ?r3y
              case h3y => intro w hSw; (try dsimp only at hSw); go_simp; (try with_reducible rfl)
              try simp only [Act.put, List.setIfInBounds_toArray, List.set_cons_zero, List.set_cons_succ]
              refine wpAnyH_take (i := 4) (oi := ⟨some 33, _, _, _, _, _⟩) (v := ?v4y) rfl (by kernel_rfl) (by kernel_rfl) (by kernel_rfl) (fun _ _ _ h => h) (Or.inl ⟨by rfl, ?h4y⟩) (by assumption) ?r4y
              case h4y => intro w hSw; (try dsimp only at hSw); go_simp; (try with_reducible rfl)
              try simp only [Act.put, List.setIfInBounds_toArray, List.set_cons_zero, List.set_cons_succ]
              refine wpAnyH_take (i := 5) (oi := ⟨some 34, _, _, _, _, _⟩) (v := ?v5y) rfl (by kernel_rfl) (by kernel_rfl) (by kernel_rfl) (fun _ _ _ h => h) (Or.inl ⟨by rfl, ?h5y⟩) (by assumption) ?r5y
              case h5y => intro w hSw; (try dsimp only at hSw); go_simp; (try with_reducible rfl)
              try simp only [Act.put, List.setIfInBounds_toArray, List.set_cons_zero, List.set_cons_succ]
              refine wpAnyH_take (i := 6) (oi := ⟨some 35, _, _, _, _, _⟩) (v := ?v6y) rfl (by kernel_rfl) (by kernel_rfl) (by kernel_rfl) (fun _ _ _ h => h) (Or.inl ⟨by rfl, ?h6y⟩) (by assumption) ?r6y
              case h6y => intro w hSw; (try dsimp only at hSw); go_simp; (try with_reducible rfl)
              try simp only [Act.put, List.setIfInBounds_toArray, List.set_cons_zero, List.set_cons_succ]
              refine wpAnyH_take (i := 7) (oi := ⟨some 36, _, _, _, _, _⟩) (v := ?v7y) rfl (by kernel_rfl) (by kernel_rfl) (by kernel_rfl) (fun _ _ _ h => h) (Or.inl ⟨by rfl, ?h7y⟩) (by assumption) ?r7y
              case h7y => intro w hSw; (try dsimp only at hSw); go_simp; (try with_reducible rfl)
              try simp only [Act.put, List.setIfInBounds_toArray, List.set_cons_zero, List.set_cons_succ]
              refine wpAnyH_take (i := 8) (oi := ⟨some 37, _, _, _, _, _⟩) (v := ?v8y) rfl (by kernel_rfl) (by kernel_rfl) (by kernel_rfl) (fun _ _ _ h => h) (Or.inl ⟨by rfl, ?h8y⟩) (by assumption) ?r8y
              case h8y => intro w hSw; (try dsimp only at hSw); go_simp; (try with_reducible rfl)
              try simp only [Act.put, List.setIfInBounds_toArray, List.set_cons_zero, List.set_cons_succ]
              refine wpAnyH_take (i := 9) (oi := ⟨some 38, _, _, _, _, _⟩) (v := ?v9y) rfl (by kernel_rfl) (by kernel_rfl) (by kernel_rfl) (fun _ _ _ h => h) (Or.inl ⟨by rfl, ?h9y⟩) (by assumption) ?r9y
              case h9y => intro w hSw; (try dsimp only at hSw); go_simp; (try with_reducible rfl)
              try simp only [Act.put, List.setIfInBounds_toArray, List.set_cons_zero, List.set_cons_succ]
              refine wpAnyH_take (i := 10) (oi := ⟨some 39, _, _, _, _, _⟩) (v := ?v10y) rfl (by kernel_rfl) (by kernel_rfl) (by kernel_rfl) (fun _ _ _ h => h) (Or.inl ⟨by rfl, ?h10y⟩) (by assumption) ?r10y
              case h10y => intro w hSw; (try dsimp only at hSw); go_simp; (try with_reducible rfl)
              try simp only [Act.put, List.setIfInBounds_toArray, List.set_cons_zero, List.set_cons_succ]
              refine wpAnyH_take (i := 13) (oi := ⟨some 42, _, _, _, _, _⟩) (v := ?v13y) rfl (by kernel_rfl) (by kernel_rfl) (by kernel_rfl) (fun _ _ _ h => h) (Or.inl ⟨by rfl, ?h13y⟩) (by assumption) ?r13y
              case h13y => intro w hSw; (try dsimp only at hSw); go_simp; (try with_reducible rfl)
              try simp only [Act.put, List.setIfInBounds_toArray, List.set_cons_zero, List.set_cons_succ]
              refine wpAnyH_take (i := 14) (oi := ⟨some 43, _, _, _, _, _⟩) (v := ?v14y) rfl (by kernel_rfl) (by kernel_rfl) (by kernel_rfl) (fun _ _ _ h => h) (Or.inl ⟨by rfl, ?h14y⟩) (by assumption) ?r14y
              case h14y => intro w hSw; (try dsimp only at hSw); have q0 := (Keeps.cell hSw (p := ⟨NB, 0, none⟩) lNB (fun h => h)).trans eNB; go_simp; (try with_reducible rfl)
              try simp only [Act.put, List.setIfInBounds_toArray, List.set_cons_zero, List.set_cons_succ]
              refine wpAnyH_ready (rs := [11]) (by kernel_rfl) (by simp) ?_
              refine AllReadyH.cons (o := ⟨some 40, _, _, _, _, _⟩) rfl (fun K hK => ?_) AllReadyH.nil
              go_simp
              (go_at_call 26; refine (HL2.out _).mono ?_; rintro z w5 ⟨rfl, hs5⟩; dsimp only)
              refine hK.out _ _ (by (try dsimp only); exact (Keeps.refl _ _).drew.trans hs5) (fun hHeld => ?_)
              clear hK K
              try simp only [Act.put, List.setIfInBounds_toArray, List.set_cons_zero, List.set_cons_succ]
              refine wpAnyH_take (i := 12) (oi := ⟨some 41, _, _, _, _, _⟩) (v := ?v12y) rfl (by kernel_rfl) (by kernel_rfl) (by kernel_rfl) (fun _ _ _ h => h) (Or.inl ⟨by rfl, ?h12y⟩) (by assumption) ?r12y
              case h12y => intro w hSw; (try dsimp only at hSw); go_simp; (try with_reducible rfl)
              try simp only [Act.put, List.setIfInBounds_toArray, List.set_cons_zero, List.set_cons_succ]
              refine wpAnyH_take (i := 15) (oi := ⟨some 44, _, _, _, _, _⟩) (v := ?v15y) rfl (by kernel_rfl) (by kernel_rfl) (by kernel_rfl) (fun _ _ _ h => h) (Or.inl ⟨by rfl, ?h15y⟩) (by assumption) ?r15y
              case h15y => intro w hSw; (try dsimp only at hSw); go_simp; (try with_reducible rfl)
              try simp only [Act.put, List.setIfInBounds_toArray, List.set_cons_zero, List.set_cons_succ]
              refine wpAnyH_take (i := 16) (oi := ⟨some 45, _, _, _, _, _⟩) (v := ?v16y) rfl (by kernel_rfl) (by kernel_rfl) (by kernel_rfl) (fun _ _ _ h => h) (Or.inl ⟨by rfl, ?h16y⟩) (by assumption) ?r16y
              case h16y => intro w hSw; (try dsimp only at hSw); go_simp; (try with_reducible rfl)
              try simp only [Act.put, List.setIfInBounds_toArray, List.set_cons_zero, List.set_cons_succ]
              refine wpAnyH_take (i := 17) (oi := ⟨some 10, _, _, _, _, _⟩) (v := ?v17y) rfl (by kernel_rfl) (by kernel_rfl) (by kernel_rfl) (fun _ _ _ h => h) (Or.inl ⟨by rfl, ?h17y⟩) (by assumption) ?r17y
              case h17y => intro w hSw; (try dsimp only at hSw); go_simp; (try with_reducible rfl)
              try simp only [Act.put, List.setIfInBounds_toArray, List.set_cons_zero, List.set_cons_succ]
              refine wpAnyH_done (by kernel_rfl) ?_ _
              go_wp2_with fail
              go_meet
              exact ⟨by simp, (Keeps.refl _ _).drew.trans hs5⟩
            · have hd1 : decide ((i : Int) + 1 < (s.length : Int)) = false := by simp; omega
              have h2 := hf3 h1
              clear HL HL2 hlit hmat hbd hth hf3 hnz
              refine wp_region_held_drew (S := (fun V => Same wc V)) (by kernel_rfl) (by (try dsimp only); exact (Keeps.refl _ _).drew) (fun hHeld => ?_)
              refine wpAnyH_take (i := 0) (oi := ⟨some 29, _, _, _, _, _⟩) (v := ?v0z) rfl (by kernel_rfl) (by kernel_rfl) (by kernel_rfl) (fun _ _ _ h => h) (Or.inl ⟨by rfl, ?h0z⟩) (by assumption) ?r0z
              case h0z => intro w hSw; (try dsimp only at hSw); go_simp; (try with_reducible rfl)
              try simp only [Act.put, List.setIfInBounds_toArray, List.set_cons_zero, List.set_cons_succ]
              refine wpAnyH_take (i := 1) (oi := ⟨some 30, _, _, _, _, _⟩) (v := ?v1z) rfl (by kernel_rfl) (by kernel_rfl) (by kernel_rfl) (fun _ _ _ h => h) (Or.inl ⟨by rfl, ?h1z⟩) (by assumption) ?r1z
              case h1z => intro w hSw; (try dsimp only at hSw); go_simp; (try with_reducible rfl)
              try simp only [Act.put, List.setIfInBounds_toArray, List.set_cons_zero, List.set_cons_succ]
              refine wpAnyH_take (i := 2) (oi := ⟨some 31, _, _, _, _, _⟩) (v := ?v2z) rfl (by kernel_rfl) (by kernel_rfl) (by kernel_rfl) (fun _ _ _ h => h) (Or.inl ⟨by rfl, ?h2z⟩) (by assumption) ?r2z
              case h2z => intro w hSw; (try dsimp only at hSw); go_simp; (try with_reducible rfl)
              try simp only [Act.put, List.setIfInBounds_toArray, List.set_cons_zero, List.set_cons_succ]
              refine wpAnyH_take (i := 3) (oi := ⟨some 32, _, _, _, _, _⟩) (v := ?v3z) rfl (by kernel_rfl) (by kernel_rfl) (by kernel_rfl) (fun _ _ _ h => h) (Or.inl ⟨by rfl, ?h3z⟩) (by assumption) ?r3z
              case h3z => intro w hSw; (try dsimp only at hSw); go_simp; (try with_reducible rfl)
              try simp only [Act.put, List.setIfInBounds_toArray, List.set_cons_zero, List.set_cons_succ]
              refine wpAnyH_take (i := 4) (oi := ⟨some 33, _, _, _, _, _⟩) (v := ?v4z) rfl (by kernel_rfl) (by kernel_rfl) (by kernel_rfl) (fun _ _ _ h => h) (Or.inl ⟨by rfl, ?h4z⟩) (by assumption) ?r4z
              case h4z => intro w hSw; (try dsimp only at hSw); go_simp; (try with_reducible rfl)
              try simp only [Act.put, List.setIfInBounds_toArray, List.set_cons_zero, List.set_cons_succ]
              refine wpAnyH_take (i := 5) (oi := ⟨some 34, _, _, _, _, _⟩) (v := ?v5z) rfl (by kernel_rfl) (by kernel_rfl) (by kernel_rfl) (fun _ _ _ h => h) (Or.inl ⟨by rfl, ?h5z⟩) (by assumption) ?r5z
              case h5z => intro w hSw; (try dsimp only at hSw); go_simp; (try with_reducible rfl)
              try simp only [Act.put, List.setIfInBounds_toArray, List.set_cons_zero, List.set_cons_succ]
              refine wpAnyH_take (i := 6) (oi := ⟨some 35, _, _, _, _, _⟩) (v := undef) rfl (by kernel_rfl) (by kernel_rfl) (by kernel_rfl) (fun _ _ _ h => h) (Or.inr ⟨by rfl, rfl⟩) (by assumption) ?_
              try simp only [Act.put, List.setIfInBounds_toArray, List.set_cons_zero, List.set_cons_succ]
              refine wpAnyH_take (i := 7) (oi := ⟨some 36, _, _, _, _, _⟩) (v := undef) rfl (by kernel_rfl) (by kernel_rfl) (by kernel_rfl) (fun _ _ _ h => h) (Or.inr ⟨by rfl, rfl⟩) (by assumption) ?_
              try simp only [Act.put, List.setIfInBounds_toArray, List.set_cons_zero, List.set_cons_succ]
              refine wpAnyH_take (i := 8) (oi := ⟨some 37, _, _, _, _, _⟩) (v := undef) rfl (by kernel_rfl) (by kernel_rfl) (by kernel_rfl) (fun _ _ _ h => h) (Or.inr ⟨by rfl, rfl⟩) (by assumption) ?_
              try simp only [Act.put, List.setIfInBounds_toArray, List.set_cons_zero, List.set_cons_succ]
              refine wpAnyH_take (i := 9) (oi := ⟨some 38, _, _, _, _, _⟩) (v := undef) rfl (by kernel_rfl) (by kernel_rfl) (by kernel_rfl) (fun _ _ _ h => h) (Or.inr ⟨by rfl, rfl⟩) (by assumption) ?_
              try simp only [Act.put, List.setIfInBounds_toArray, List.set_cons_zero, List.set_cons_succ]
              refine wpAnyH_take (i := 10) (oi := ⟨some 39, _, _, _, _, _⟩) (v := undef) rfl (by kernel_rfl) (by kernel_rfl) (by kernel_rfl) (fun _ _ _ h => h) (Or.inr ⟨by rfl, rfl⟩) (by assumption) ?_
              try simp only [Act.put, List.setIfInBounds_toArray, List.set_cons_zero, List.set_cons_succ]
              refine wpAnyH_take (i := 11) (oi := ⟨some 40, _, _, _, _, _⟩) (v := undef) rfl (by kernel_rfl) (by kernel_rfl) (by kernel_rfl) (fun _ _ _ h => h) (Or.inr ⟨by rfl, rfl⟩) (by assumption) ?_
              try simp only [Act.put, List.setIfInBounds_toArray, List.set_cons_zero, List.set_cons_succ]
              refine wpAnyH_take (i := 12) (oi := ⟨some 41, _, _, _, _, _⟩) (v := undef) rfl (by kernel_rfl) (by kernel_rfl) (by kernel_rfl) (fun _ _ _ h => h) (Or.inr ⟨by rfl, rfl⟩) (by assumption) ?_
              try simp only [Act.put, List.setIfInBounds_toArray, List.set_cons_zero, List.set_cons_succ]
              refine wpAnyH_take (i := 13) (oi := ⟨some 42, _, _, _, _, _⟩) (v := undef) rfl (by kernel_rfl) (by kernel_rfl) (by kernel_rfl) (fun _ _ _ h => h) (Or.inr ⟨by rfl, rfl⟩) (by assumption) ?_
              try simp only [Act.put, List.setIfInBounds_toArray, List.set_cons_zero, List.set_cons_succ]
              refine wpAnyH_take (i := 14) (oi := ⟨some 43, _, _, _, _, _⟩) (v := undef) rfl (by kernel_rfl) (by kernel_rfl) (by kernel_rfl) (fun _ _ _ h => h) (Or.inr ⟨by rfl, rfl⟩) (by assumption) ?_
              try simp only [Act.put, List.setIfInBounds_toArray, List.set_cons_zero, List.set_cons_succ]
              refine wpAnyH_take (i := 15) (oi := ⟨some 44, _, _, _, _, _⟩) (v := undef) rfl (by kernel_rfl) (by kernel_rfl) (by kernel_rfl) (fun _ _ _ h => h) (Or.inr ⟨by rfl, rfl⟩) (by assumption) ?_
              try simp only [Act.put, List.setIfInBounds_toArray, List.set_cons_zero, List.set_cons_succ]
              refine wpAnyH_take (i := 16) (oi := ⟨some 45, _, _, _, _, _⟩) (v := ?v16z) rfl (by kernel_rfl) (by kernel_rfl) (by kernel_rfl) (fun _ _ _ h => h) (Or.inl ⟨by rfl, ?h16z⟩) (by assumption) ?r16z
              case h16z => intro w hSw; (try dsimp only at hSw); go_simp; (try with_reducible rfl)
              try simp only [Act.put, List.setIfInBounds_toArray, List.set_cons_zero, List.set_cons_succ]
              refine wpAnyH_take (i := 17) (oi := ⟨some 10, _, _, _, _, _⟩) (v := ?v17z) rfl (by kernel_rfl) (by kernel_rfl) (by kernel_rfl) (fun _ _ _ h => h) (Or.inl ⟨by rfl, ?h17z⟩) (by assumption) ?r17z
              case h17z => intro w hSw; (try dsimp only at hSw); go_simp; (try with_reducible rfl)
              try simp only [Act.put, List.setIfInBounds_toArray, List.set_cons_zero, List.set_cons_succ]
              refine wpAnyH_done (by kernel_rfl) ?_ _
              go_wp2_with fail
              go_meet
              exact ⟨by subst h2; simp, (Keeps.refl _ _).drew⟩
          case rest =>
            obtain ⟨rfl, hs5⟩ := hcut
            have hpk5 := hpk.same hs5
            have hsm5 := hsm.trans hs5
            have hNB5 := hNB.keeps hs5 (fun h => h)
            have e5 := hNB5.cell 0
            have e51 := hNB5.cell 1
            simp only [List.getElem?_toArray, List.getElem?_cons_succ, List.getElem?_cons_zero] at e5 e51
            clear eNB lNB hpk hs4 hs5 HL HL2
            by_cases hn0 : L.length = 0
            · have hx0 := hnz hn0
              simp only [Prod.mk.injEq] at hx0
              obtain ⟨rfl, rfl⟩ := hx0
              rw [hlit (.inl hn0), hget] at hleft
              have HF := hid hleft
              clear hleft hlit hmat hbd hth hf3 hnz
              go_wp2_with ((at_builtin; refine wpList_push _ rfl (.tmp 52) (.tmp 57) 25 rfl 28 i0 (.agg #[.int .i64 0, .int .i64 0, .int .i64 0, .int .u8 0]) 4 32 Try.underlying25 HI zP (by decide) q1 ol.length c1 (cellsP ol) ?_ ?_ ⟨wc.heap.size, 0, none⟩ 1 1 (Pk.cells ⟨1, 0, 0, s[i]⟩) ?_ rfl ?_ (pk_one _ _ _ _) H1 H2 ?_; exact rfl; exact hpk5.own.alloc _; exact rfl; exact cells_four_at (by simp); intro q2 c2 w6 hown6 hk6 hat6 _; have HR := hid (Sl.push hsm5 hge hown6 hk6 hat6); have hb6 := (hNB5.alloc _).keeps hk6 hnq; have g0 := hb6.cell 0; simp only [List.getElem?_toArray, List.getElem?_cons_zero] at g0; clear hown6 hk6 hat6))
              obtain ⟨t1, t2, t3, t4, t5⟩ := HR.out
              go_roundw
              case rel => exact ⟨i + 1, q2, c2, ol ++ [⟨1, 0, 0, s[i]⟩], by go_num, by simp, (by show Sl _ _ _ _ _ _ _; rw [cellsP_snoc, List.length_append]; exact t1), t2, t3, by rw [List.append_assoc]; exact HF.out, by omega, by simp; omega⟩
              case measure => simp [intOf]; omega
            · have hL0 : 0 < L.length := by omega
              have h3 := hth hL0
              obtain ⟨b1, b2, b3, b4, b5⟩ := hbd hL0
              have hne : ((n : Int) == 0) = false := by simp; omega
              by_cases hw : n < n2
              · have hd2 : decide ((n : Int) < (n2 : Int)) = true := by simpa using hw
                rw [hlit (.inr hw), hget] at hleft
                have HF := hid hleft
                clear hleft hlit hmat hbd hth hf3 hnz
                go_wp2_with ((at_builtin; refine wpList_push _ rfl (.tmp 52) (.tmp 57) 25 rfl 28 i0 (.agg #[.int .i64 0, .int .i64 0, .int .i64 0, .int .u8 0]) 4 32 Try.underlying25 HI zP (by decide) q1 ol.length c1 (cellsP ol) ?_ ?_ ⟨wc.heap.size, 0, none⟩ 1 1 (Pk.cells ⟨1, 0, 0, s[i]⟩) ?_ rfl ?_ (pk_one _ _ _ _) H1 H2 ?_; exact rfl; exact hpk5.own.alloc _; exact rfl; exact cells_four_at (by simp); intro q2 c2 w6 hown6 hk6 hat6 _; have HR := hid (Sl.push hsm5 hge hown6 hk6 hat6); have hb6 := (hNB5.alloc _).keeps hk6 hnq; have g0 := hb6.cell 0; simp only [List.getElem?_toArray, List.getElem?_cons_zero] at g0; clear hown6 hk6 hat6))
                obtain ⟨t1, t2, t3, t4, t5⟩ := HR.out
                go_roundw
                case rel => exact ⟨i + 1, q2, c2, ol ++ [⟨1, 0, 0, s[i]⟩], by go_num, by simp, (by show Sl _ _ _ _ _ _ _; rw [cellsP_snoc, List.length_append]; exact t1), t2, t3, by rw [List.append_assoc]; exact HF.out, by omega, by simp; omega⟩
                case measure => simp [intOf]; omega
              · have hd2 : decide ((n : Int) < (n2 : Int)) = false := by simpa using hw
                have hd3 : decide (n < n2) = false := by simpa using hw
                rw [hmat (by omega)] at hleft
                have HF := hid hleft
                clear hleft hlit hmat hbd hth hf3 hnz hw
                go_wp2_with ((at_builtin; refine wpList_push _ rfl (.tmp 61) (.tmp 67) 25 rfl 28 i0 (.agg #[.int .i64 0, .int .i64 0, .int .i64 0, .int .u8 0]) 4 32 Try.underlying25 HI zP (by decide) q1 ol.length c1 (cellsP ol) ?_ ?_ ⟨wc.heap.size, 0, none⟩ 1 1 (Pk.cells ⟨2, d, n, 0⟩) ?_ rfl ?_ (pk_one _ _ _ _) H1 H2 ?_; exact rfl; exact hpk5.own.alloc _; exact rfl; exact cells_four_at (by simp); intro q2 c2 w6 hown6 hk6 hat6 _; have HR := hid (Sl.push hsm5 hge hown6 hk6 hat6); have hb6 := (hNB5.alloc _).keeps hk6 hnq; have g0 := hb6.cell 0; simp only [List.getElem?_toArray, List.getElem?_cons_zero] at g0; clear hown6 hk6 hat6))
                obtain ⟨t1, t2, t3, t4, t5⟩ := HR.out
                go_roundw
                case rel => exact ⟨i + n, q2, c2, ol ++ [⟨2, d, n, 0⟩], by go_num, by simp, (by show Sl _ _ _ _ _ _ _; rw [cellsP_snoc, List.length_append]; exact t1), t2, t3, by rw [List.append_assoc]; exact HF.out, by omega, by simp; omega⟩
                case measure => simp [intOf]; omega
      · obtain rfl : i = s.length := by omega
        rw [leftZ_end s W C _ (Nat.le_refl _), List.append_nil] at hleft
        subst hleft
        have HRP := hid (rrepeat_any q1 c1 (lazyL s W C) wr hpk (by omega))
        have HG := hid (fun w0 => lparse_any s W C w0 hs)
        have hlen : (repeatL (lazyL s W C)).length ≤ 1000000000 := by
          rw [repeatL_length]
          have := lazyGo_length s W C s.length 0
          have e : (lazyL s W C).length = (lazyGo s W C s.length 0).length := rfl
          omega
        generalize repeatL (lazyL s W C) = RL at *
        go_wp2_with (first
          | (go_at_call 17; refine HRP.out.mono ?_; rintro z w2 ⟨q6, c6, rfl, hs2, hB2, _⟩)
          | (go_at_call 27; refine (HG.out _).mono ?_; rintro z w6 ⟨q5, c5, rfl, hs6, hA6⟩; have hB6 := hB2.same hs6; replace hs6 := hs2.trans hs6))
        go_loopw [12] (fun i wx => ∃ k : Nat, k ≤ RL.length ∧ i = i6 k ∧ Same w6 wx) (fun i _ => RL.length - (intOf i).toNat)
        case atStart => exact ⟨0, Nat.zero_le _, rfl, Keeps.refl _ _⟩
        case round =>
          clear HRP HG
          obtain ⟨k, hk, rfl, hsm6⟩ := hrel
          by_cases hlt2 : k < RL.length
          · obtain ⟨g, rfl⟩ := hA6.ex (by omega)
            obtain ⟨g2, rfl⟩ := hB6.ex (by omega)
            have hget : RL[k]? = some RL[k] := by simp [hlt2]
            have e1 := (hA6.keeps hsm6 (fun _ _ h => h)).at k _ hget
            have e2 := rpks_at (hB6.same hsm6) k _ hget
            generalize RL[k] = p at *
            obtain ⟨pk_, pd, pl, py⟩ := p
            dsimp only at e1 e2
            clear hget
            go_wp2_with fail
            go_quiet (fail)
            go_wp2_with fail
            exact ⟨⟨k + 1, by omega, by go_num, hsm6.drewN _⟩, by simp [intOf]; omega⟩
          · obtain rfl : k = RL.length := by omega
            go_wp2_with fail
            go_ret
            exact ⟨rfl, (hsm.trans hs6).trans hsm6⟩
end Go.Proofs.Ytalopgbkjgjppaa
