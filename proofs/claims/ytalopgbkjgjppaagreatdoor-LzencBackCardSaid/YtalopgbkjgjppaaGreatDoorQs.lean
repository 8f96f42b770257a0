/- The walk of law 11's Coded. -/
import Derived.Test.YtalopgbkjgjppaaGreatDoorGQq
namespace Go.Proofs.YtalopgbkjgjppaaGreatDoor
open Go.RowKit Go.Cas Go.Maps Go.Cas.Enc

set_option maxHeartbeats 16000000 in
set_option maxRecDepth 100000 in
theorem r11coded_any (q : Option Addr) (n cap : Nat) (L : List Pk) (lc lp pb : Nat) (ee : Bool) (w : World) (hn : n ≤ maxLen) (hL : L.length = min n 40) (hl : OutPks w q L) (h1 : lc ≤ 4) (h2 : lp ≤ 4) (h3 : pb ≤ 4) :
    Calls Tryz.prog 7 #[.slice q n cap, .agg #[i6 lc, i6 lp, i6 pb], .bool ee] w fun z w' => ∃ q1 c1 G t s, z = .returned (.tuple #[.slice q1 (List.length G) c1, .string s, .string ⟨(t : List UInt8).toArray⟩]) ∧
      Pks w' q1 c1 G ∧ (∀ b, sblk q1 b → w.heap.size ≤ b) ∧ Same w w' ∧ G.length ≤ 40 ∧ t.length ≤ 2273 ∧ applyL G (t.length : Int) = (t, 0) := by
  obtain ⟨i0, HI⟩ := info_hid Tryz.infoP
  have HL := hid hl
  have HN := hid (And.intro hn hL)
  have HF := hid (Good.first (lc := lc) (lp := lp) (pb := pb) h1 h2 h3)
  clear hl hL h1 h2 h3
  go_enter Tryz.func7, Tryz.ntmps7
  go_upto_region 1 with fail
  have hb0 : Blk (w.alloc (.cells #[i6 lc, i6 lp, i6 pb] 26)) w.heap.size #[i6 lc, i6 lp, i6 pb] 26 := (Blk.new _ _ _)
  have hs0 : Same w (w.alloc (.cells #[i6 lc, i6 lp, i6 pb] 26)) := (Keeps.refl _ _).alloc _
  generalize w.alloc (.cells #[i6 lc, i6 lp, i6 pb] 26) = wa at hb0 hs0 ⊢
  generalize w.heap.size = B at hb0 ⊢
  have a0 := hb0.cell 0
  have a1 := hb0.cell 1
  have a2 := hb0.cell 2
  have al := hb0.lt
  simp only [List.getElem?_toArray, List.getElem?_cons_zero, List.getElem?_cons_succ] at a0 a1 a2
  clear hb0
  go_wp2_with fail
  refine (r10new_any lc lp pb _).mono ?_
  rintro z w1 ⟨p, mb, rfl, hs1, hD, hgp, hgm⟩
  have H1 := hid (And.intro hs0 (And.intro hs1 (And.intro hD (And.intro hgp hgm))))
  clear hs0 hs1 hD hgp hgm a0 a1 a2 al
  go_wp2_with fail
  refine (r3new_any _).mono ?_
  rintro z w2 ⟨v, rfl, hE, hs2⟩
  obtain ⟨g, cp, bs, rfl, hb1, hb2, hb3⟩ := hE
  have H2 := hid (And.intro hb1 (And.intro hb2 (And.intro hb3 hs2)))
  clear hb1 hb2 hb3 hs2
  go_upto_region 2 with fail
  have hC : CI w (w2.alloc (.cells #[.slice (some ⟨g, 0, none⟩) 4 cp, .int .u64 4294967295] 56)) p mb w2.heap.size (Mdl.first lc lp pb) 0 [] none 0 := by
    obtain ⟨s1, s2, hD, e1, e2⟩ := H1.out
    obtain ⟨b1, b2, b3, s3⟩ := H2.out
    have s4 : Same w2 (w2.alloc (.cells #[.slice (some ⟨g, 0, none⟩) 4 cp, .int .u64 4294967295] 56)) := (Keeps.refl _ _).alloc _
    have z1 := s1.size
    have z2 := s2.size
    have z3 := s3.size
    exact ⟨hD.keeps (s3.trans s4) (fun h => h) (fun h => h), ⟨g, 4, cp, 4294967295, Blk.new _ _ _, 4, 4294967295, ⟨g, cp, bs, rfl, b1, b2.same s4, b3⟩, by omega, by omega, by omega⟩, ⟨World.ownsRow_nil _ _ _ _⟩, by simp [sblk], ((s1.trans s2).trans s3).trans s4, by omega, by omega, by omega⟩
  generalize w2.alloc (.cells #[.slice (some ⟨g, 0, none⟩) 4 cp, .int .u64 4294967295] 56) = w3 at hC ⊢
  generalize w2.heap.size = bf at hC ⊢
  have HC0 := hid hC
  obtain ⟨N, hN⟩ : ∃ N, L.length = N := ⟨_, rfl⟩
  have hN2 : N = min n 40 := by rw [← hN]; exact HN.out.2
  have HNL := hid hN
  clear hC H1 H2 hN
  go_wp2_with fail
  go_loopw [11, 12] (fun s11 s12 wr => ∃ (i : Nat) (M : Mdl) (G : List Pk) (q1 : Option Addr) (c1 : Nat), s12 = i6 i ∧ s11 = .slice q1 G.length c1 ∧ i ≤ N ∧ G.length ≤ i ∧ CI w wr p mb bf M (300 * i) G q1 c1 ∧ Good lc lp pb M G) (fun _ s12 _ => N - (intOf s12).toNat)
  case atStart => exact ⟨0, Mdl.first lc lp pb, [], none, 0, rfl, rfl, Nat.zero_le _, Nat.zero_le _, HC0.out, HF.out⟩
  case round =>
    obtain ⟨i, M, G, q1, c1, rfl, rfl, hi, hGi, hC, hG⟩ := hrel
    clear HC0 HF
    by_cases hlt : i < N
    · have hin : i < n := by omega
      have hi40 : i < 40 := by omega
      have d0 : decide ((i : Int) < (n : Int)) = true := by simp; omega
      have d1 : decide ((i : Int) < 40) = true := by simp; omega
      have vi : IntKind.i64.wrap ((i : Int) + 1) = (i : Int) + 1 := IntWalk.i64_in _ (by omega)
      have hiL : i < L.length := by have := HNL.out; omega
      have hget : L[i]? = some L[i] := by simp [hiL]
      obtain ⟨a, rfl, hab, e0, e1, e2, e3⟩ := HL.out i _ hget
      generalize L[i] = pkt at *
      have hab' : ∀ j, (a.add j).block < w.heap.size := fun j => by unfold Addr.add; split <;> exact hab
      have hsm := hC.S
      rw [← hsm.cell (p := a.add (i * 4)) (hab' _) (fun h => h)] at e0
      rw [← hsm.cell (p := a.add (i * 4 + 1)) (hab' _) (fun h => h), ← Go.Deep.add_add] at e1
      rw [← hsm.cell (p := a.add (i * 4 + 2)) (hab' _) (fun h => h), ← Go.Deep.add_add] at e2
      rw [← hsm.cell (p := a.add (i * 4 + 3)) (hab' _) (fun h => h), ← Go.Deep.add_add] at e3
      replace e1 : wr.cell? ⟨(a.add (i * 4)).block, (a.add (i * 4)).off + 1, none⟩ = some (i6 pkt.d) := e1
      replace e2 : wr.cell? ⟨(a.add (i * 4)).block, (a.add (i * 4)).off + 2, none⟩ = some (i6 pkt.l) := e2
      replace e3 : wr.cell? ⟨(a.add (i * 4)).block, (a.add (i * 4)).off + 3, none⟩ = some (b8 pkt.y) := e3
      have HC := hid hC
      have HG := hid hG
      have HI2 := hid (And.intro hi (And.intro hGi hlt))
      have HA2 := hid hab'
      clear hget hiL hC hG hi hGi hlt hsm hab'
      go_upto_region 7 with fail
      have hbu : Blk (wr.alloc (.cells #[i6 pkt.k, i6 pkt.d, i6 pkt.l, b8 pkt.y] 58)) wr.heap.size #[i6 pkt.k, i6 pkt.d, i6 pkt.l, b8 pkt.y] 58 := Blk.new _ _ _
      have hsu : Same wr (wr.alloc (.cells #[i6 pkt.k, i6 pkt.d, i6 pkt.l, b8 pkt.y] 58)) := (Keeps.refl _ _).alloc _
      generalize wr.alloc (.cells #[i6 pkt.k, i6 pkt.d, i6 pkt.l, b8 pkt.y] 58) = w4 at hbu hsu ⊢
      have hC4 := HC.out.same hsu
      have hup : p < wr.heap.size ∧ mb < wr.heap.size ∧ bf < wr.heap.size := by
        obtain ⟨g, n, cap, sz, e1, e2⟩ := HC.out.eb
        exact ⟨HC.out.D.blk.lt, HC.out.D.lt, e1.lt⟩
      obtain ⟨u, hu⟩ : ∃ u, wr.heap.size = u := ⟨_, rfl⟩
      rw [hu] at hbu hup ⊢
      have HU := hid hup
      have HC4 := hid hC4
      have HB4 := hid hbu
      have u0 : w4.cell? ⟨u, 0, none⟩ = some (i6 pkt.k) := hbu.cell 0
      have u1 : w4.cell? ⟨u, 1, none⟩ = some (i6 pkt.d) := hbu.cell 1
      have u2 : w4.cell? ⟨u, 2, none⟩ = some (i6 pkt.l) := hbu.cell 2
      have u3 : w4.cell? ⟨u, 3, none⟩ = some (b8 pkt.y) := hbu.cell 3
      have lu := hbu.lt
      clear e0 e1 e2 e3 hsu hC4 hbu hup hu hab
      obtain ⟨pk_, pd, pl, py⟩ := pkt
      dsimp only at u0 u1 u2 u3
      go_cut [14] (fun s14 wx => s14 = .bool (decide (pk_ = 1) && (decide (pd = 0) && decide (pl = 0))) ∧ wx = w4)
      case first =>
        by_cases h1 : pk_ = 1
        · subst h1
          by_cases h2 : pd = 0
          · subst h2
            by_cases h3 : pl = 0
            · subst h3
              go_wp2_with fail
              go_meet
              exact ⟨by simp, rfl⟩
            · have t3 : (pl == 0) = false := by simpa using h3
              go_wp2_with fail
              go_meet
              exact ⟨by simp [h3], rfl⟩
          · have t2 : (pd == 0) = false := by simpa using h2
            go_wp2_with fail
            go_meet
            exact ⟨by simp [h2], rfl⟩
        · have t1 : (pk_ == 1) = false := by simpa using h1
          go_wp2_with fail
          go_meet
          exact ⟨by simp [h1], rfl⟩
      case rest =>
        obtain ⟨rfl, rfl⟩ := hcut
        obtain ⟨w4, rfl⟩ : ∃ w4 : World, w4 = wc := ⟨_, rfl⟩
        have HBa := hid (fun w0 => back_any pk_ pd pl py.toNat M.T.length M.r0 M.r1 M.r2 M.r3 w0)
        obtain ⟨ok, hok⟩ : ∃ ok, lets M ⟨pk_, pd, pl, py⟩ = ok := ⟨_, rfl⟩
        have HOK := hid hok
        clear hok
        go_upto_if 52 with fail
        go_cut [14] (fun s14 wx => s14 = .bool ok ∧ Same w4 wx)
        case first =>
          by_cases h1 : pk_ = 1
          · subst h1
            go_wp2_with fail
            go_meet
            have hok := HOK.out
            unfold lets at hok
            rw [if_pos rfl] at hok
            exact ⟨by rw [← hok]; first | done | simp, Keeps.refl _ _⟩
          · have t1 : (pk_ == 1) = false := by simpa using h1
            have t1' : (pk_ != 1) = true := by simpa using h1
            have hbs : (⟨M.T.toArray⟩ : ByteArray).size = M.T.length := rfl
            have m5 := HC4.out.D.blk.cell 5
            have m6 := HC4.out.D.blk.cell 6
            have m7 := HC4.out.D.blk.cell 7
            have m8 := HC4.out.D.blk.cell 8
            have m9 := HC4.out.D.blk.cell 9
            have lp := HC4.out.D.blk.lt
            simp only [Mdl.cells, List.getElem?_toArray, List.getElem?_cons_succ, List.getElem?_cons_zero] at m5 m6 m7 m8 m9
            have hok : (backL pk_ pd pl py.toNat M.T.length M.r0 M.r1 M.r2 M.r3).2.2.2 = ok := by
              have hok := HOK.out
              unfold lets at hok
              rw [if_neg h1] at hok
              exact hok
            have HB2 := hid hok
            generalize backL pk_ pd pl py.toNat M.T.length M.r0 M.r1 M.r2 M.r3 = bk at HBa hok HB2
            obtain ⟨x0, x1, ⟨ra, rb, rc, rd⟩, ok'⟩ := bk
            dsimp only at HBa hok
            subst hok
            clear h1
            go_upto_region 9 with fail
            refine wp_region_S (S := (fun V => Same w4 V)) 16 (by kernel_rfl) (by (try dsimp only); exact (Keeps.refl _ _).drew) (fun hHeld => ?_)
            refine wpAnyS_take (i := 0) (oi := ⟨some 54, _, _, _, _, _⟩) (v := ?v0r9) rfl (by kernel_rfl) (by kernel_rfl) (by kernel_rfl) (by kernel_rfl) (fun _ _ _ h => h) (Or.inl ⟨by rfl, ?h0r9⟩) (by assumption) ?r0r9
            case h0r9 => intro w hSw; (try dsimp only at hSw); have q0 := (Keeps.cell hSw (p := ⟨u, 0, none⟩) lu (fun h => h)).trans u0; have q1 := (Keeps.cell hSw (p := ⟨u, 1, none⟩) lu (fun h => h)).trans u1; have q2 := (Keeps.cell hSw (p := ⟨u, 2, none⟩) lu (fun h => h)).trans u2; have q3 := (Keeps.cell hSw (p := ⟨u, 3, none⟩) lu (fun h => h)).trans u3; go_simp; (try with_reducible rfl)
            try simp only [Act.put, List.setIfInBounds_toArray, List.set_cons_zero, List.set_cons_succ]
            refine wpAnyS_take (i := 1) (oi := ⟨some 55, _, _, _, _, _⟩) (v := ?v1r9) rfl (by kernel_rfl) (by kernel_rfl) (by kernel_rfl) (by kernel_rfl) (fun _ _ _ h => h) (Or.inl ⟨by rfl, ?h1r9⟩) (by assumption) ?r1r9
            case h1r9 => intro w hSw; (try dsimp only at hSw); go_simp; (try with_reducible rfl)
            try simp only [Act.put, List.setIfInBounds_toArray, List.set_cons_zero, List.set_cons_succ]
            refine wpAnyS_take (i := 2) (oi := ⟨some 56, _, _, _, _, _⟩) (v := ?v2r9) rfl (by kernel_rfl) (by kernel_rfl) (by kernel_rfl) (by kernel_rfl) (fun _ _ _ h => h) (Or.inl ⟨by rfl, ?h2r9⟩) (by assumption) ?r2r9
            case h2r9 => intro w hSw; (try dsimp only at hSw); go_simp; (try with_reducible rfl)
            try simp only [Act.put, List.setIfInBounds_toArray, List.set_cons_zero, List.set_cons_succ]
            refine wpAnyS_take (i := 3) (oi := ⟨some 57, _, _, _, _, _⟩) (v := ?v3r9) rfl (by kernel_rfl) (by kernel_rfl) (by kernel_rfl) (by kernel_rfl) (fun _ _ _ h => h) (Or.inl ⟨by rfl, ?h3r9⟩) (by assumption) ?r3r9
            case h3r9 => intro w hSw; (try dsimp only at hSw); go_simp; (try with_reducible rfl)
            try simp only [Act.put, List.setIfInBounds_toArray, List.set_cons_zero, List.set_cons_succ]
            refine wpAnyS_take (i := 4) (oi := ⟨some 58, _, _, _, _, _⟩) (v := ?v4r9) rfl (by kernel_rfl) (by kernel_rfl) (by kernel_rfl) (by kernel_rfl) (fun _ _ _ h => h) (Or.inl ⟨by rfl, ?h4r9⟩) (by assumption) ?r4r9
            case h4r9 => intro w hSw; (try dsimp only at hSw); have q9 := (Keeps.cell hSw (p := ⟨p, 9, none⟩) lp (fun h => h)).trans m9; go_simp; (try with_reducible rfl)
            try simp only [Act.put, List.setIfInBounds_toArray, List.set_cons_zero, List.set_cons_succ]
            refine wpAnyS_take (i := 5) (oi := ⟨some 59, _, _, _, _, _⟩) (v := ?v5r9) rfl (by kernel_rfl) (by kernel_rfl) (by kernel_rfl) (by kernel_rfl) (fun _ _ _ h => h) (Or.inl ⟨by rfl, ?h5r9⟩) (by assumption) ?r5r9
            case h5r9 => intro w hSw; (try dsimp only at hSw); go_simp; (try with_reducible rfl)
            try simp only [Act.put, List.setIfInBounds_toArray, List.set_cons_zero, List.set_cons_succ]
            refine wpAnyS_take (i := 6) (oi := ⟨some 60, _, _, _, _, _⟩) (v := ?v6r9) rfl (by kernel_rfl) (by kernel_rfl) (by kernel_rfl) (by kernel_rfl) (fun _ _ _ h => h) (Or.inl ⟨by rfl, ?h6r9⟩) (by assumption) ?r6r9
            case h6r9 => intro w hSw; (try dsimp only at hSw); go_simp; (try with_reducible rfl)
            try simp only [Act.put, List.setIfInBounds_toArray, List.set_cons_zero, List.set_cons_succ]
            refine wpAnyS_take (i := 7) (oi := ⟨some 61, _, _, _, _, _⟩) (v := ?v7r9) rfl (by kernel_rfl) (by kernel_rfl) (by kernel_rfl) (by kernel_rfl) (fun _ _ _ h => h) (Or.inl ⟨by rfl, ?h7r9⟩) (by assumption) ?r7r9
            case h7r9 => intro w hSw; (try dsimp only at hSw); go_simp; (try with_reducible rfl)
            try simp only [Act.put, List.setIfInBounds_toArray, List.set_cons_zero, List.set_cons_succ]
            refine wpAnyS_take (i := 8) (oi := ⟨some 62, _, _, _, _, _⟩) (v := ?v8r9) rfl (by kernel_rfl) (by kernel_rfl) (by kernel_rfl) (by kernel_rfl) (fun _ _ _ h => h) (Or.inl ⟨by rfl, ?h8r9⟩) (by assumption) ?r8r9
            case h8r9 => intro w hSw; (try dsimp only at hSw); go_simp; (try with_reducible rfl)
            try simp only [Act.put, List.setIfInBounds_toArray, List.set_cons_zero, List.set_cons_succ]
            refine wpAnyS_take (i := 9) (oi := ⟨some 63, _, _, _, _, _⟩) (v := ?v9r9) rfl (by kernel_rfl) (by kernel_rfl) (by kernel_rfl) (by kernel_rfl) (fun _ _ _ h => h) (Or.inl ⟨by rfl, ?h9r9⟩) (by assumption) ?r9r9
            case h9r9 => intro w hSw; (try dsimp only at hSw); have q5 := (Keeps.cell hSw (p := ⟨p, 5, none⟩) lp (fun h => h)).trans m5; have q6 := (Keeps.cell hSw (p := ⟨p, 6, none⟩) lp (fun h => h)).trans m6; have q7 := (Keeps.cell hSw (p := ⟨p, 7, none⟩) lp (fun h => h)).trans m7; have q8 := (Keeps.cell hSw (p := ⟨p, 8, none⟩) lp (fun h => h)).trans m8; go_simp; (try with_reducible rfl)
            try simp only [Act.put, List.setIfInBounds_toArray, List.set_cons_zero, List.set_cons_succ]
            refine wpAnyS_one (i := 10) (o := ⟨some 64, _, _, _, _, _⟩) rfl (by kernel_rfl) (fun K hK => ?_)
            go_simp; (go_at_call 22; refine (HBa.out _).mono ?_; rintro z w9 ⟨rfl, hs9⟩; have HS9 := hid ((Same.drew1 _).trans hs9); clear hs9; dsimp only)
            refine hK.out _ _ (fun _ => by (try dsimp only); exact HS9.out) ?_
            clear hK K
            try simp only [Act.put, List.setIfInBounds_toArray, List.set_cons_zero, List.set_cons_succ]
            refine wpAnyS_take (i := 11) (oi := ⟨some 53, _, _, _, _, _⟩) (v := ?v11r9) rfl (by kernel_rfl) (by kernel_rfl) (by kernel_rfl) (by kernel_rfl) (fun _ _ _ h => h) (Or.inl ⟨by rfl, ?h11r9⟩) (by assumption) ?r11r9
            case h11r9 => intro w hSw; (try dsimp only at hSw); go_simp; (try with_reducible rfl)
            try simp only [Act.put, List.setIfInBounds_toArray, List.set_cons_zero, List.set_cons_succ]
            refine wpAnyS_take (i := 12) (oi := ⟨some 65, _, _, _, _, _⟩) (v := ?v12r9) rfl (by kernel_rfl) (by kernel_rfl) (by kernel_rfl) (by kernel_rfl) (fun _ _ _ h => h) (Or.inl ⟨by rfl, ?h12r9⟩) (by assumption) ?r12r9
            case h12r9 => intro w hSw; (try dsimp only at hSw); go_simp; (try with_reducible rfl)
            try simp only [Act.put, List.setIfInBounds_toArray, List.set_cons_zero, List.set_cons_succ]
            refine wpAnyS_take (i := 13) (oi := ⟨some 66, _, _, _, _, _⟩) (v := ?v13r9) rfl (by kernel_rfl) (by kernel_rfl) (by kernel_rfl) (by kernel_rfl) (fun _ _ _ h => h) (Or.inl ⟨by rfl, ?h13r9⟩) (by assumption) ?r13r9
            case h13r9 => intro w hSw; (try dsimp only at hSw); go_simp; (try with_reducible rfl)
            try simp only [Act.put, List.setIfInBounds_toArray, List.set_cons_zero, List.set_cons_succ]
            refine wpAnyS_take (i := 14) (oi := ⟨some 67, _, _, _, _, _⟩) (v := ?v14r9) rfl (by kernel_rfl) (by kernel_rfl) (by kernel_rfl) (by kernel_rfl) (fun _ _ _ h => h) (Or.inl ⟨by rfl, ?h14r9⟩) (by assumption) ?r14r9
            case h14r9 => intro w hSw; (try dsimp only at hSw); go_simp; (try with_reducible rfl)
            try simp only [Act.put, List.setIfInBounds_toArray, List.set_cons_zero, List.set_cons_succ]
            refine wpAnyS_take (i := 15) (oi := ⟨some 68, _, _, _, _, _⟩) (v := ?v15r9) rfl (by kernel_rfl) (by kernel_rfl) (by kernel_rfl) (by kernel_rfl) (fun _ _ _ h => h) (Or.inl ⟨by rfl, ?h15r9⟩) (by assumption) ?r15r9
            case h15r9 => intro w hSw; (try dsimp only at hSw); go_simp; (try with_reducible rfl)
            try simp only [Act.put, List.setIfInBounds_toArray, List.set_cons_zero, List.set_cons_succ]
            refine wpAnyS_one (i := 16) (o := ⟨some 14, _, _, _, _, _⟩) rfl (by kernel_rfl) (fun K hK => ?_)
            go_simp
            refine hK.out _ _ (fun h => absurd h (by decide)) ?_
            clear hK K
            try simp only [Act.put, List.setIfInBounds_toArray, List.set_cons_zero, List.set_cons_succ]
            refine wpAnyS_done (by kernel_rfl) ?_ _
            go_wp2_with fail
            go_meet
            exact ⟨rfl, HS9.out⟩
        case rest =>
          obtain ⟨rfl, hs5⟩ := hcut
          obtain ⟨w5, rfl⟩ : ∃ w5 : World, w5 = wc := ⟨_, rfl⟩
          have HC5 := hid (HC4.out.same hs5)
          have HB5 := hid (HB4.out.keeps hs5 (fun h => h))
          clear hs5 u0 u1 u2 u3 lu HB4 HC4 HBa
          have hbs : (⟨M.T.toArray⟩ : ByteArray).size = M.T.length := rfl
          have m9 := HC5.out.D.blk.cell 9
          have lp := HC5.out.D.blk.lt
          simp only [Mdl.cells, List.getElem?_toArray, List.getElem?_cons_succ, List.getElem?_cons_zero] at m9
          have hmeas := hid (show N - (intOf (i6 ((i : Int) + 1))).toNat < N - (intOf (i6 (i : Int))).toNat by have := HI2.out.2.2; simp [intOf]; omega)
          cases ok with
          | false =>
            go_wp2_with fail
            exact ⟨⟨i + 1, M, G, q1, c1, by go_num, rfl, by have := HI2.out; omega, by have := HI2.out; omega, HC5.out.mono (by omega), HG.out⟩, hmeas.out⟩
          | true =>
            by_cases hlen : M.T.length < 2000
            · have d2 : decide ((M.T.length : Int) < 2000) = true := by simp; omega
              obtain ⟨g5, n5, c5, z5, e5, f5⟩ := HC5.out.eb
              have HF5 := hid f5
              have HL2 := hid hlen
              have lb := e5.lt
              have y0 := e5.cell 0
              have y1 := e5.cell 1
              simp only [eArr, List.getElem?_toArray, List.getElem?_cons_succ, List.getElem?_cons_zero] at y0 y1
              have u0 : w5.cell? ⟨u, 0, none⟩ = some (i6 pk_) := HB5.out.cell 0
              have u1 : w5.cell? ⟨u, 1, none⟩ = some (i6 pd) := HB5.out.cell 1
              have u2 : w5.cell? ⟨u, 2, none⟩ = some (i6 pl) := HB5.out.cell 2
              have u3 : w5.cell? ⟨u, 3, none⟩ = some (b8 py) := HB5.out.cell 3
              have lu := HB5.out.lt
              clear e5 f5 hlen
              go_upto_region 11 with fail
              go_wp2_with fail
              refine (r10put_any p mb M (300 * i) _ ⟨pk_, pd, pl, py⟩ _ HC5.out.D HF5.out (by omega) HG.out.ok HG.out.reps HOK.out).mono ?_
              rintro z w6 ⟨v, rfl, hE, hD, hK⟩
              obtain ⟨g6, n6, c6, z6, rfl, ⟨a0, a1, x0, x1⟩, f0, f1, hC6⟩ := HC5.out.put hE hD hK
              have hb6 := (HB5.out.keeps hK (by have := HU.out; have := HB5.out; omega)).keeps (Keeps.setCell (p := ⟨bf, 1, none⟩) (Keeps.setCell (p := ⟨bf, 0, none⟩) (Keeps.refl (fun b => b = bf) w6) (fun _ => rfl) (.slice (some ⟨g6, 0, none⟩) n6 c6)) (fun _ => rfl) (v64 z6)) (by have := HU.out; omega)
              have HG6 := hid (HG.out.put HOK.out HL2.out)
              have HC6 := hid hC6
              have HB6 := hid hb6
              clear hE hD hK hC6 hb6 y0 y1 u0 u1 u2 u3 lu lb m9 lp hbs d2
              go_upto_region 12 with fail
              clear x0 x1 f0 f1
              generalize ((w6.setCell ⟨bf, 0, none⟩ (.slice (some ⟨g6, 0, none⟩) n6 c6)).setCell ⟨bf, 1, none⟩ (v64 z6)) = w7 at HC6 HB6 ⊢
              have u0 : w7.cell? ⟨u, 0, none⟩ = some (i6 pk_) := HB6.out.cell 0
              have u1 : w7.cell? ⟨u, 1, none⟩ = some (i6 pd) := HB6.out.cell 1
              have u2 : w7.cell? ⟨u, 2, none⟩ = some (i6 pl) := HB6.out.cell 2
              have u3 : w7.cell? ⟨u, 3, none⟩ = some (b8 py) := HB6.out.cell 3
              have lu := HB6.out.lt
              have HP1 := hid (show G.length + 1 ≤ maxLen by have := HI2.out; unfold maxLen; omega)
              have HP2 := hid (show (G.length + 1) * 32 ≤ 140737488355328 by have := HI2.out; omega)
              go_wp2_with ((at_builtin; refine wpList_push _ rfl (.tmp 82) (.tmp 84) 28 rfl 39 i0 (.agg #[.int .i64 0, .int .i64 0, .int .i64 0, .int .u8 0]) 4 32 Tryz.underlying28 HI zP (by decide) q1 G.length c1 (cellsP G) ?_ ?_ ⟨w7.heap.size, 0, none⟩ 1 1 (Pk.cells ⟨pk_, pd, pl, py⟩) ?_ rfl ?_ (pk_one _ _ _ _) HP1 HP2 ?_; exact rfl; exact HC6.out.A.own.alloc _; exact rfl; exact cells_four_at (by simp); intro q2 c2 w8 hown8 hk8 hat8 _; have HR := hid (HC6.out.push hown8 hk8 hat8); clear hown8 hk8 hat8))
              exact ⟨⟨i + 1, putM M ⟨pk_, pd, pl, py⟩, G ++ [⟨pk_, pd, pl, py⟩], q2, c2, by go_num, by simp, by have := HI2.out; omega, by have := HI2.out; simp; omega, HR.out.mono (by omega), HG6.out⟩, hmeas.out⟩
            · have d2 : decide ((M.T.length : Int) < 2000) = false := by simp; omega
              go_wp2_with fail
              exact ⟨⟨i + 1, M, G, q1, c1, by go_num, rfl, by have := HI2.out; omega, by have := HI2.out; omega, HC5.out.mono (by omega), HG.out⟩, hmeas.out⟩
    · have hiN : i = N := by omega
      have HC5 := hid hC
      have HG5 := hid hG
      have HK := hid (show 300 * i ≤ 12000 ∧ G.length ≤ 40 by omega)
      have hd : decide (i < n) = false ∨ (i < n ∧ decide (i < n) = true ∧ decide ((i : Int) < 40) = false) := by
        by_cases h : i < n
        · exact .inr ⟨h, by simp; omega, by simp; omega⟩
        · exact .inl (by simp; omega)
      clear hC hG hi hGi hlt hiN hN2
      obtain ⟨g5, n5, c5, z5, e5, f5⟩ := HC5.out.eb
      have HF5 := hid f5
      have lb := e5.lt
      have y0 := e5.cell 0
      have y1 := e5.cell 1
      simp only [eArr, List.getElem?_toArray, List.getElem?_cons_succ, List.getElem?_cons_zero] at y0 y1
      clear e5 f5
      rcases hd with d0 | ⟨hin, d0, d1⟩
      · cases ee with
        | false =>
          have m9 := HC5.out.D.blk.cell 9
          have lp := HC5.out.D.blk.lt
          simp only [Mdl.cells, List.getElem?_toArray, List.getElem?_cons_succ, List.getElem?_cons_zero] at m9
          obtain ⟨nE, sE, hE3, hnE, _, _⟩ := HF5.out
          have HEn := hid (fun (w0 : World) (h : Same wr w0) => r3end_any _ nE sE w0 (hE3.same h) (by have := HK.out.1; omega))
          clear hE3 hnE
          go_upto_region 15 with fail
          refine wp_region_S (S := (fun V => Same wr V)) 9 (by kernel_rfl) (by (try dsimp only); exact (Keeps.refl _ _).drew) (fun hHeld => ?_)
          refine wpAnyS_take (i := 0) (oi := ⟨some 90, _, _, _, _, _⟩) (v := ?v0xR15a) rfl (by kernel_rfl) (by kernel_rfl) (by kernel_rfl) (by kernel_rfl) (fun _ _ _ h => h) (Or.inl ⟨by rfl, ?h0xR15a⟩) (by assumption) ?r0xR15a
          case h0xR15a => intro w hSw; (try dsimp only at hSw); go_simp; (try with_reducible rfl)
          try simp only [Act.put, List.setIfInBounds_toArray, List.set_cons_zero, List.set_cons_succ]
          refine wpAnyS_take (i := 1) (oi := ⟨some 91, _, _, _, _, _⟩) (v := ?v1xR15a) rfl (by kernel_rfl) (by kernel_rfl) (by kernel_rfl) (by kernel_rfl) (fun _ _ _ h => h) (Or.inl ⟨by rfl, ?h1xR15a⟩) (by assumption) ?r1xR15a
          case h1xR15a => intro w hSw; (try dsimp only at hSw); have q0 := (Keeps.cell hSw (p := ⟨bf, 0, none⟩) lb (fun h => h)).trans y0; have q1 := (Keeps.cell hSw (p := ⟨bf, 1, none⟩) lb (fun h => h)).trans y1; go_simp; (try with_reducible rfl)
          try simp only [Act.put, List.setIfInBounds_toArray, List.set_cons_zero, List.set_cons_succ]
          refine wpAnyS_take (i := 3) (oi := ⟨some 93, _, _, _, _, _⟩) (v := ?v3xR15a) rfl (by kernel_rfl) (by kernel_rfl) (by kernel_rfl) (by kernel_rfl) (fun _ _ _ h => h) (Or.inl ⟨by rfl, ?h3xR15a⟩) (by assumption) ?r3xR15a
          case h3xR15a => intro w hSw; (try dsimp only at hSw); go_simp; (try with_reducible rfl)
          try simp only [Act.put, List.setIfInBounds_toArray, List.set_cons_zero, List.set_cons_succ]
          refine wpAnyS_take (i := 4) (oi := ⟨some 94, _, _, _, _, _⟩) (v := ?v4xR15a) rfl (by kernel_rfl) (by kernel_rfl) (by kernel_rfl) (by kernel_rfl) (fun _ _ _ h => h) (Or.inl ⟨by rfl, ?h4xR15a⟩) (by assumption) ?r4xR15a
          case h4xR15a => intro w hSw; (try dsimp only at hSw); go_simp; (try with_reducible rfl)
          try simp only [Act.put, List.setIfInBounds_toArray, List.set_cons_zero, List.set_cons_succ]
          refine wpAnyS_take (i := 5) (oi := ⟨some 95, _, _, _, _, _⟩) (v := ?v5xR15a) rfl (by kernel_rfl) (by kernel_rfl) (by kernel_rfl) (by kernel_rfl) (fun _ _ _ h => h) (Or.inl ⟨by rfl, ?h5xR15a⟩) (by assumption) ?r5xR15a
          case h5xR15a => intro w hSw; (try dsimp only at hSw); go_simp; (try with_reducible rfl)
          try simp only [Act.put, List.setIfInBounds_toArray, List.set_cons_zero, List.set_cons_succ]
          refine wpAnyS_take (i := 6) (oi := ⟨some 96, _, _, _, _, _⟩) (v := ?v6xR15a) rfl (by kernel_rfl) (by kernel_rfl) (by kernel_rfl) (by kernel_rfl) (fun _ _ _ h => h) (Or.inl ⟨by rfl, ?h6xR15a⟩) (by assumption) ?r6xR15a
          case h6xR15a => intro w hSw; (try dsimp only at hSw); have q9 := (Keeps.cell hSw (p := ⟨p, 9, none⟩) lp (fun h => h)).trans m9; go_simp; (try with_reducible rfl)
          try simp only [Act.put, List.setIfInBounds_toArray, List.set_cons_zero, List.set_cons_succ]
          refine wpAnyS_one (i := 2) (o := ⟨some 92, _, _, _, _, _⟩) rfl (by kernel_rfl) (fun K hK => ?_)
          go_simp; (go_at_call 25; refine (HEn.out _ (Same.drew1 _)).mono ?_; rintro z w9 ⟨⟨s9, rfl⟩, hs9⟩; have HS9 := hid ((Same.drew1 _).trans hs9); clear hs9; dsimp only)
          refine hK.out _ _ (fun _ => by (try dsimp only); exact HS9.out) ?_
          clear hK K
          try simp only [Act.put, List.setIfInBounds_toArray, List.set_cons_zero, List.set_cons_succ]
          refine wpAnyS_take (i := 7) (oi := ⟨some 6, _, _, _, _, _⟩) (v := ?v7xR15a) rfl (by kernel_rfl) (by kernel_rfl) (by kernel_rfl) (by kernel_rfl) (fun _ _ _ h => h) (Or.inl ⟨by rfl, ?h7xR15a⟩) (by assumption) ?r7xR15a
          case h7xR15a => intro w hSw; (try dsimp only at hSw); go_simp; (try with_reducible rfl)
          try simp only [Act.put, List.setIfInBounds_toArray, List.set_cons_zero, List.set_cons_succ]
          refine wpAnyS_take (i := 8) (oi := ⟨some 7, _, _, _, _, _⟩) (v := ?v8xR15a) rfl (by kernel_rfl) (by kernel_rfl) (by kernel_rfl) (by kernel_rfl) (fun _ _ _ h => h) (Or.inl ⟨by rfl, ?h8xR15a⟩) (by assumption) ?r8xR15a
          case h8xR15a => intro w hSw; (try dsimp only at hSw); go_simp; (try with_reducible rfl)
          try simp only [Act.put, List.setIfInBounds_toArray, List.set_cons_zero, List.set_cons_succ]
          refine wpAnyS_one (i := 9) (o := ⟨some 8, _, _, _, _, _⟩) rfl (by kernel_rfl) (fun K hK => ?_)
          go_simp
          refine hK.out _ _ (fun h => absurd h (by decide)) ?_
          clear hK K
          try simp only [Act.put, List.setIfInBounds_toArray, List.set_cons_zero, List.set_cons_succ]
          refine wpAnyS_done (by kernel_rfl) ?_ _
          go_wp2_with fail
          refine bodyPost_ret (v := .tuple #[.slice q1 G.length c1, .string s9, .string ⟨M.T.toArray⟩]) (by simp [results, Tryz.results7, go_sem]) rfl ?_
          exact ⟨q1, c1, G, M.T, s9, rfl, HC5.out.A.keeps HS9.out (fun _ _ h => h), HC5.out.gA, HC5.out.S.trans HS9.out, HK.out.2, HG5.out.len, HG5.out.back⟩
        | true =>
          go_upto_region 14 with fail
          go_wp2_with fail
          refine (r10end_any p mb M (300 * i) _ _ HC5.out.D HF5.out (by have := HK.out.1; omega) HG5.out.ok.2.2.1 (by have := HG5.out.len; omega) HG5.out.ok.2.2.2.2.1).mono ?_
          rintro z w6 ⟨v, rfl, hE, hD, hK⟩
          obtain ⟨g6, n6, c6, z6, rfl, ⟨a0, a1, x0, x1⟩, f0, f1, hC6⟩ := HC5.out.put hE hD (hK.mono fun b _ e => .inr e)
          have HC6 := hid hC6
          clear hE hD hK hC6 y0 y1 lb
          go_upto_region 15 with fail
          clear x0 x1 f0 f1
          generalize ((w6.setCell ⟨bf, 0, none⟩ (.slice (some ⟨g6, 0, none⟩) n6 c6)).setCell ⟨bf, 1, none⟩ (v64 z6)) = w7 at HC6 ⊢
          have m9 := HC6.out.D.blk.cell 9
          have lp := HC6.out.D.blk.lt
          simp only [Mdl.cells, List.getElem?_toArray, List.getElem?_cons_succ, List.getElem?_cons_zero] at m9
          obtain ⟨g7, n7, c7, z7, e7, f7⟩ := HC6.out.eb
          obtain ⟨nE, sE, hE3, hnE, _, _⟩ := f7
          have lb := e7.lt
          have y0 := e7.cell 0
          have y1 := e7.cell 1
          simp only [eArr, List.getElem?_toArray, List.getElem?_cons_succ, List.getElem?_cons_zero] at y0 y1
          have HEn := hid (fun (w0 : World) (h : Same w7 w0) => r3end_any _ nE sE w0 (hE3.same h) (by have := HK.out.1; omega))
          clear hE3 hnE e7
          refine wp_region_S (S := (fun V => Same w7 V)) 9 (by kernel_rfl) (by (try dsimp only); exact (Keeps.refl _ _).drew) (fun hHeld => ?_)
          refine wpAnyS_take (i := 0) (oi := ⟨some 90, _, _, _, _, _⟩) (v := ?v0xR15b) rfl (by kernel_rfl) (by kernel_rfl) (by kernel_rfl) (by kernel_rfl) (fun _ _ _ h => h) (Or.inl ⟨by rfl, ?h0xR15b⟩) (by assumption) ?r0xR15b
          case h0xR15b => intro w hSw; (try dsimp only at hSw); go_simp; (try with_reducible rfl)
          try simp only [Act.put, List.setIfInBounds_toArray, List.set_cons_zero, List.set_cons_succ]
          refine wpAnyS_take (i := 1) (oi := ⟨some 91, _, _, _, _, _⟩) (v := ?v1xR15b) rfl (by kernel_rfl) (by kernel_rfl) (by kernel_rfl) (by kernel_rfl) (fun _ _ _ h => h) (Or.inl ⟨by rfl, ?h1xR15b⟩) (by assumption) ?r1xR15b
          case h1xR15b => intro w hSw; (try dsimp only at hSw); have q0 := (Keeps.cell hSw (p := ⟨bf, 0, none⟩) lb (fun h => h)).trans y0; have q1 := (Keeps.cell hSw (p := ⟨bf, 1, none⟩) lb (fun h => h)).trans y1; go_simp; (try with_reducible rfl)
          try simp only [Act.put, List.setIfInBounds_toArray, List.set_cons_zero, List.set_cons_succ]
          refine wpAnyS_take (i := 3) (oi := ⟨some 93, _, _, _, _, _⟩) (v := ?v3xR15b) rfl (by kernel_rfl) (by kernel_rfl) (by kernel_rfl) (by kernel_rfl) (fun _ _ _ h => h) (Or.inl ⟨by rfl, ?h3xR15b⟩) (by assumption) ?r3xR15b
          case h3xR15b => intro w hSw; (try dsimp only at hSw); go_simp; (try with_reducible rfl)
          try simp only [Act.put, List.setIfInBounds_toArray, List.set_cons_zero, List.set_cons_succ]
          refine wpAnyS_take (i := 4) (oi := ⟨some 94, _, _, _, _, _⟩) (v := ?v4xR15b) rfl (by kernel_rfl) (by kernel_rfl) (by kernel_rfl) (by kernel_rfl) (fun _ _ _ h => h) (Or.inl ⟨by rfl, ?h4xR15b⟩) (by assumption) ?r4xR15b
          case h4xR15b => intro w hSw; (try dsimp only at hSw); go_simp; (try with_reducible rfl)
          try simp only [Act.put, List.setIfInBounds_toArray, List.set_cons_zero, List.set_cons_succ]
          refine wpAnyS_take (i := 5) (oi := ⟨some 95, _, _, _, _, _⟩) (v := ?v5xR15b) rfl (by kernel_rfl) (by kernel_rfl) (by kernel_rfl) (by kernel_rfl) (fun _ _ _ h => h) (Or.inl ⟨by rfl, ?h5xR15b⟩) (by assumption) ?r5xR15b
          case h5xR15b => intro w hSw; (try dsimp only at hSw); go_simp; (try with_reducible rfl)
          try simp only [Act.put, List.setIfInBounds_toArray, List.set_cons_zero, List.set_cons_succ]
          refine wpAnyS_take (i := 6) (oi := ⟨some 96, _, _, _, _, _⟩) (v := ?v6xR15b) rfl (by kernel_rfl) (by kernel_rfl) (by kernel_rfl) (by kernel_rfl) (fun _ _ _ h => h) (Or.inl ⟨by rfl, ?h6xR15b⟩) (by assumption) ?r6xR15b
          case h6xR15b => intro w hSw; (try dsimp only at hSw); have q9 := (Keeps.cell hSw (p := ⟨p, 9, none⟩) lp (fun h => h)).trans m9; go_simp; (try with_reducible rfl)
          try simp only [Act.put, List.setIfInBounds_toArray, List.set_cons_zero, List.set_cons_succ]
          refine wpAnyS_one (i := 2) (o := ⟨some 92, _, _, _, _, _⟩) rfl (by kernel_rfl) (fun K hK => ?_)
          go_simp; (go_at_call 25; refine (HEn.out _ (Same.drew1 _)).mono ?_; rintro z w9 ⟨⟨s9, rfl⟩, hs9⟩; have HS9 := hid ((Same.drew1 _).trans hs9); clear hs9; dsimp only)
          refine hK.out _ _ (fun _ => by (try dsimp only); exact HS9.out) ?_
          clear hK K
          try simp only [Act.put, List.setIfInBounds_toArray, List.set_cons_zero, List.set_cons_succ]
          refine wpAnyS_take (i := 7) (oi := ⟨some 6, _, _, _, _, _⟩) (v := ?v7xR15b) rfl (by kernel_rfl) (by kernel_rfl) (by kernel_rfl) (by kernel_rfl) (fun _ _ _ h => h) (Or.inl ⟨by rfl, ?h7xR15b⟩) (by assumption) ?r7xR15b
          case h7xR15b => intro w hSw; (try dsimp only at hSw); go_simp; (try with_reducible rfl)
          try simp only [Act.put, List.setIfInBounds_toArray, List.set_cons_zero, List.set_cons_succ]
          refine wpAnyS_take (i := 8) (oi := ⟨some 7, _, _, _, _, _⟩) (v := ?v8xR15b) rfl (by kernel_rfl) (by kernel_rfl) (by kernel_rfl) (by kernel_rfl) (fun _ _ _ h => h) (Or.inl ⟨by rfl, ?h8xR15b⟩) (by assumption) ?r8xR15b
          case h8xR15b => intro w hSw; (try dsimp only at hSw); go_simp; (try with_reducible rfl)
          try simp only [Act.put, List.setIfInBounds_toArray, List.set_cons_zero, List.set_cons_succ]
          refine wpAnyS_one (i := 9) (o := ⟨some 8, _, _, _, _, _⟩) rfl (by kernel_rfl) (fun K hK => ?_)
          go_simp
          refine hK.out _ _ (fun h => absurd h (by decide)) ?_
          clear hK K
          try simp only [Act.put, List.setIfInBounds_toArray, List.set_cons_zero, List.set_cons_succ]
          refine wpAnyS_done (by kernel_rfl) ?_ _
          go_wp2_with fail
          refine bodyPost_ret (v := .tuple #[.slice q1 G.length c1, .string s9, .string ⟨M.T.toArray⟩]) (by simp [results, Tryz.results7, go_sem]) rfl ?_
          exact ⟨q1, c1, G, M.T, s9, rfl, HC6.out.A.keeps HS9.out (fun _ _ h => h), HC6.out.gA, HC6.out.S.trans HS9.out, HK.out.2, HG5.out.len, HG5.out.back⟩
      · cases ee with
        | false =>
          have m9 := HC5.out.D.blk.cell 9
          have lp := HC5.out.D.blk.lt
          simp only [Mdl.cells, List.getElem?_toArray, List.getElem?_cons_succ, List.getElem?_cons_zero] at m9
          obtain ⟨nE, sE, hE3, hnE, _, _⟩ := HF5.out
          have HEn := hid (fun (w0 : World) (h : Same wr w0) => r3end_any _ nE sE w0 (hE3.same h) (by have := HK.out.1; omega))
          clear hE3 hnE
          go_upto_region 15 with fail
          refine wp_region_S (S := (fun V => Same wr V)) 9 (by kernel_rfl) (by (try dsimp only); exact (Keeps.refl _ _).drew) (fun hHeld => ?_)
          refine wpAnyS_take (i := 0) (oi := ⟨some 90, _, _, _, _, _⟩) (v := ?v0yR15a) rfl (by kernel_rfl) (by kernel_rfl) (by kernel_rfl) (by kernel_rfl) (fun _ _ _ h => h) (Or.inl ⟨by rfl, ?h0yR15a⟩) (by assumption) ?r0yR15a
          case h0yR15a => intro w hSw; (try dsimp only at hSw); go_simp; (try with_reducible rfl)
          try simp only [Act.put, List.setIfInBounds_toArray, List.set_cons_zero, List.set_cons_succ]
          refine wpAnyS_take (i := 1) (oi := ⟨some 91, _, _, _, _, _⟩) (v := ?v1yR15a) rfl (by kernel_rfl) (by kernel_rfl) (by kernel_rfl) (by kernel_rfl) (fun _ _ _ h => h) (Or.inl ⟨by rfl, ?h1yR15a⟩) (by assumption) ?r1yR15a
          case h1yR15a => intro w hSw; (try dsimp only at hSw); have q0 := (Keeps.cell hSw (p := ⟨bf, 0, none⟩) lb (fun h => h)).trans y0; have q1 := (Keeps.cell hSw (p := ⟨bf, 1, none⟩) lb (fun h => h)).trans y1; go_simp; (try with_reducible rfl)
          try simp only [Act.put, List.setIfInBounds_toArray, List.set_cons_zero, List.set_cons_succ]
          refine wpAnyS_take (i := 3) (oi := ⟨some 93, _, _, _, _, _⟩) (v := ?v3yR15a) rfl (by kernel_rfl) (by kernel_rfl) (by kernel_rfl) (by kernel_rfl) (fun _ _ _ h => h) (Or.inl ⟨by rfl, ?h3yR15a⟩) (by assumption) ?r3yR15a
          case h3yR15a => intro w hSw; (try dsimp only at hSw); go_simp; (try with_reducible rfl)
          try simp only [Act.put, List.setIfInBounds_toArray, List.set_cons_zero, List.set_cons_succ]
          refine wpAnyS_take (i := 4) (oi := ⟨some 94, _, _, _, _, _⟩) (v := ?v4yR15a) rfl (by kernel_rfl) (by kernel_rfl) (by kernel_rfl) (by kernel_rfl) (fun _ _ _ h => h) (Or.inl ⟨by rfl, ?h4yR15a⟩) (by assumption) ?r4yR15a
          case h4yR15a => intro w hSw; (try dsimp only at hSw); go_simp; (try with_reducible rfl)
          try simp only [Act.put, List.setIfInBounds_toArray, List.set_cons_zero, List.set_cons_succ]
          refine wpAnyS_take (i := 5) (oi := ⟨some 95, _, _, _, _, _⟩) (v := ?v5yR15a) rfl (by kernel_rfl) (by kernel_rfl) (by kernel_rfl) (by kernel_rfl) (fun _ _ _ h => h) (Or.inl ⟨by rfl, ?h5yR15a⟩) (by assumption) ?r5yR15a
          case h5yR15a => intro w hSw; (try dsimp only at hSw); go_simp; (try with_reducible rfl)
          try simp only [Act.put, List.setIfInBounds_toArray, List.set_cons_zero, List.set_cons_succ]
          refine wpAnyS_take (i := 6) (oi := ⟨some 96, _, _, _, _, _⟩) (v := ?v6yR15a) rfl (by kernel_rfl) (by kernel_rfl) (by kernel_rfl) (by kernel_rfl) (fun _ _ _ h => h) (Or.inl ⟨by rfl, ?h6yR15a⟩) (by assumption) ?r6yR15a
          case h6yR15a => intro w hSw; (try dsimp only at hSw); have q9 := (Keeps.cell hSw (p := ⟨p, 9, none⟩) lp (fun h => h)).trans m9; go_simp; (try with_reducible rfl)
          try simp only [Act.put, List.setIfInBounds_toArray, List.set_cons_zero, List.set_cons_succ]
          refine wpAnyS_one (i := 2) (o := ⟨some 92, _, _, _, _, _⟩) rfl (by kernel_rfl) (fun K hK => ?_)
          go_simp; (go_at_call 25; refine (HEn.out _ (Same.drew1 _)).mono ?_; rintro z w9 ⟨⟨s9, rfl⟩, hs9⟩; have HS9 := hid ((Same.drew1 _).trans hs9); clear hs9; dsimp only)
          refine hK.out _ _ (fun _ => by (try dsimp only); exact HS9.out) ?_
          clear hK K
          try simp only [Act.put, List.setIfInBounds_toArray, List.set_cons_zero, List.set_cons_succ]
          refine wpAnyS_take (i := 7) (oi := ⟨some 6, _, _, _, _, _⟩) (v := ?v7yR15a) rfl (by kernel_rfl) (by kernel_rfl) (by kernel_rfl) (by kernel_rfl) (fun _ _ _ h => h) (Or.inl ⟨by rfl, ?h7yR15a⟩) (by assumption) ?r7yR15a
          case h7yR15a => intro w hSw; (try dsimp only at hSw); go_simp; (try with_reducible rfl)
          try simp only [Act.put, List.setIfInBounds_toArray, List.set_cons_zero, List.set_cons_succ]
          refine wpAnyS_take (i := 8) (oi := ⟨some 7, _, _, _, _, _⟩) (v := ?v8yR15a) rfl (by kernel_rfl) (by kernel_rfl) (by kernel_rfl) (by kernel_rfl) (fun _ _ _ h => h) (Or.inl ⟨by rfl, ?h8yR15a⟩) (by assumption) ?r8yR15a
          case h8yR15a => intro w hSw; (try dsimp only at hSw); go_simp; (try with_reducible rfl)
          try simp only [Act.put, List.setIfInBounds_toArray, List.set_cons_zero, List.set_cons_succ]
          refine wpAnyS_one (i := 9) (o := ⟨some 8, _, _, _, _, _⟩) rfl (by kernel_rfl) (fun K hK => ?_)
          go_simp
          refine hK.out _ _ (fun h => absurd h (by decide)) ?_
          clear hK K
          try simp only [Act.put, List.setIfInBounds_toArray, List.set_cons_zero, List.set_cons_succ]
          refine wpAnyS_done (by kernel_rfl) ?_ _
          go_wp2_with fail
          refine bodyPost_ret (v := .tuple #[.slice q1 G.length c1, .string s9, .string ⟨M.T.toArray⟩]) (by simp [results, Tryz.results7, go_sem]) rfl ?_
          exact ⟨q1, c1, G, M.T, s9, rfl, HC5.out.A.keeps HS9.out (fun _ _ h => h), HC5.out.gA, HC5.out.S.trans HS9.out, HK.out.2, HG5.out.len, HG5.out.back⟩
        | true =>
          go_upto_region 14 with fail
          go_wp2_with fail
          refine (r10end_any p mb M (300 * i) _ _ HC5.out.D HF5.out (by have := HK.out.1; omega) HG5.out.ok.2.2.1 (by have := HG5.out.len; omega) HG5.out.ok.2.2.2.2.1).mono ?_
          rintro z w6 ⟨v, rfl, hE, hD, hK⟩
          obtain ⟨g6, n6, c6, z6, rfl, ⟨a0, a1, x0, x1⟩, f0, f1, hC6⟩ := HC5.out.put hE hD (hK.mono fun b _ e => .inr e)
          have HC6 := hid hC6
          clear hE hD hK hC6 y0 y1 lb
          go_upto_region 15 with fail
          clear x0 x1 f0 f1
          generalize ((w6.setCell ⟨bf, 0, none⟩ (.slice (some ⟨g6, 0, none⟩) n6 c6)).setCell ⟨bf, 1, none⟩ (v64 z6)) = w7 at HC6 ⊢
          have m9 := HC6.out.D.blk.cell 9
          have lp := HC6.out.D.blk.lt
          simp only [Mdl.cells, List.getElem?_toArray, List.getElem?_cons_succ, List.getElem?_cons_zero] at m9
          obtain ⟨g7, n7, c7, z7, e7, f7⟩ := HC6.out.eb
          obtain ⟨nE, sE, hE3, hnE, _, _⟩ := f7
          have lb := e7.lt
          have y0 := e7.cell 0
          have y1 := e7.cell 1
          simp only [eArr, List.getElem?_toArray, List.getElem?_cons_succ, List.getElem?_cons_zero] at y0 y1
          have HEn := hid (fun (w0 : World) (h : Same w7 w0) => r3end_any _ nE sE w0 (hE3.same h) (by have := HK.out.1; omega))
          clear hE3 hnE e7
          refine wp_region_S (S := (fun V => Same w7 V)) 9 (by kernel_rfl) (by (try dsimp only); exact (Keeps.refl _ _).drew) (fun hHeld => ?_)
          refine wpAnyS_take (i := 0) (oi := ⟨some 90, _, _, _, _, _⟩) (v := ?v0yR15b) rfl (by kernel_rfl) (by kernel_rfl) (by kernel_rfl) (by kernel_rfl) (fun _ _ _ h => h) (Or.inl ⟨by rfl, ?h0yR15b⟩) (by assumption) ?r0yR15b
          case h0yR15b => intro w hSw; (try dsimp only at hSw); go_simp; (try with_reducible rfl)
          try simp only [Act.put, List.setIfInBounds_toArray, List.set_cons_zero, List.set_cons_succ]
          refine wpAnyS_take (i := 1) (oi := ⟨some 91, _, _, _, _, _⟩) (v := ?v1yR15b) rfl (by kernel_rfl) (by kernel_rfl) (by kernel_rfl) (by kernel_rfl) (fun _ _ _ h => h) (Or.inl ⟨by rfl, ?h1yR15b⟩) (by assumption) ?r1yR15b
          case h1yR15b => intro w hSw; (try dsimp only at hSw); have q0 := (Keeps.cell hSw (p := ⟨bf, 0, none⟩) lb (fun h => h)).trans y0; have q1 := (Keeps.cell hSw (p := ⟨bf, 1, none⟩) lb (fun h => h)).trans y1; go_simp; (try with_reducible rfl)
          try simp only [Act.put, List.setIfInBounds_toArray, List.set_cons_zero, List.set_cons_succ]
          refine wpAnyS_take (i := 3) (oi := ⟨some 93, _, _, _, _, _⟩) (v := ?v3yR15b) rfl (by kernel_rfl) (by kernel_rfl) (by kernel_rfl) (by kernel_rfl) (fun _ _ _ h => h) (Or.inl ⟨by rfl, ?h3yR15b⟩) (by assumption) ?r3yR15b
          case h3yR15b => intro w hSw; (try dsimp only at hSw); go_simp; (try with_reducible rfl)
          try simp only [Act.put, List.setIfInBounds_toArray, List.set_cons_zero, List.set_cons_succ]
          refine wpAnyS_take (i := 4) (oi := ⟨some 94, _, _, _, _, _⟩) (v := ?v4yR15b) rfl (by kernel_rfl) (by kernel_rfl) (by kernel_rfl) (by kernel_rfl) (fun _ _ _ h => h) (Or.inl ⟨by rfl, ?h4yR15b⟩) (by assumption) ?r4yR15b
          case h4yR15b => intro w hSw; (try dsimp only at hSw); go_simp; (try with_reducible rfl)
          try simp only [Act.put, List.setIfInBounds_toArray, List.set_cons_zero, List.set_cons_succ]
          refine wpAnyS_take (i := 5) (oi := ⟨some 95, _, _, _, _, _⟩) (v := ?v5yR15b) rfl (by kernel_rfl) (by kernel_rfl) (by kernel_rfl) (by kernel_rfl) (fun _ _ _ h => h) (Or.inl ⟨by rfl, ?h5yR15b⟩) (by assumption) ?r5yR15b
          case h5yR15b => intro w hSw; (try dsimp only at hSw); go_simp; (try with_reducible rfl)
          try simp only [Act.put, List.setIfInBounds_toArray, List.set_cons_zero, List.set_cons_succ]
          refine wpAnyS_take (i := 6) (oi := ⟨some 96, _, _, _, _, _⟩) (v := ?v6yR15b) rfl (by kernel_rfl) (by kernel_rfl) (by kernel_rfl) (by kernel_rfl) (fun _ _ _ h => h) (Or.inl ⟨by rfl, ?h6yR15b⟩) (by assumption) ?r6yR15b
          case h6yR15b => intro w hSw; (try dsimp only at hSw); have q9 := (Keeps.cell hSw (p := ⟨p, 9, none⟩) lp (fun h => h)).trans m9; go_simp; (try with_reducible rfl)
          try simp only [Act.put, List.setIfInBounds_toArray, List.set_cons_zero, List.set_cons_succ]
          refine wpAnyS_one (i := 2) (o := ⟨some 92, _, _, _, _, _⟩) rfl (by kernel_rfl) (fun K hK => ?_)
          go_simp; (go_at_call 25; refine (HEn.out _ (Same.drew1 _)).mono ?_; rintro z w9 ⟨⟨s9, rfl⟩, hs9⟩; have HS9 := hid ((Same.drew1 _).trans hs9); clear hs9; dsimp only)
          refine hK.out _ _ (fun _ => by (try dsimp only); exact HS9.out) ?_
          clear hK K
          try simp only [Act.put, List.setIfInBounds_toArray, List.set_cons_zero, List.set_cons_succ]
          refine wpAnyS_take (i := 7) (oi := ⟨some 6, _, _, _, _, _⟩) (v := ?v7yR15b) rfl (by kernel_rfl) (by kernel_rfl) (by kernel_rfl) (by kernel_rfl) (fun _ _ _ h => h) (Or.inl ⟨by rfl, ?h7yR15b⟩) (by assumption) ?r7yR15b
          case h7yR15b => intro w hSw; (try dsimp only at hSw); go_simp; (try with_reducible rfl)
          try simp only [Act.put, List.setIfInBounds_toArray, List.set_cons_zero, List.set_cons_succ]
          refine wpAnyS_take (i := 8) (oi := ⟨some 7, _, _, _, _, _⟩) (v := ?v8yR15b) rfl (by kernel_rfl) (by kernel_rfl) (by kernel_rfl) (by kernel_rfl) (fun _ _ _ h => h) (Or.inl ⟨by rfl, ?h8yR15b⟩) (by assumption) ?r8yR15b
          case h8yR15b => intro w hSw; (try dsimp only at hSw); go_simp; (try with_reducible rfl)
          try simp only [Act.put, List.setIfInBounds_toArray, List.set_cons_zero, List.set_cons_succ]
          refine wpAnyS_one (i := 9) (o := ⟨some 8, _, _, _, _, _⟩) rfl (by kernel_rfl) (fun K hK => ?_)
          go_simp
          refine hK.out _ _ (fun h => absurd h (by decide)) ?_
          clear hK K
          try simp only [Act.put, List.setIfInBounds_toArray, List.set_cons_zero, List.set_cons_succ]
          refine wpAnyS_done (by kernel_rfl) ?_ _
          go_wp2_with fail
          refine bodyPost_ret (v := .tuple #[.slice q1 G.length c1, .string s9, .string ⟨M.T.toArray⟩]) (by simp [results, Tryz.results7, go_sem]) rfl ?_
          exact ⟨q1, c1, G, M.T, s9, rfl, HC6.out.A.keeps HS9.out (fun _ _ h => h), HC6.out.gA, HC6.out.S.trans HS9.out, HK.out.2, HG5.out.len, HG5.out.back⟩
end Go.Proofs.YtalopgbkjgjppaaGreatDoor
