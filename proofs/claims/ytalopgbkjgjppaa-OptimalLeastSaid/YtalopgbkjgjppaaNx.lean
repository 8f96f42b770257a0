/- The walk of the finder's Next. -/
import Derived.Test.YtalopgbkjgjppaaCh
import Derived.Test.YtalopgbkjgjppaaFd
namespace Go.Proofs.Ytalopgbkjgjppaa
open Go.RowKit Go.Cas Go.Maps

theorem Try.infoF : (Try.prog.info? 70).map (fun i => (i.zero, i.size, i.bytes)) = some (some (.agg #[.int .i64 0, .int .i64 0]), 2, 16) := by kernel_rfl
theorem zF : (Value.agg #[.int .i64 0, .int .i64 0]).cells.size = 2 := by kernel_rfl

theorem cells_two_at {w : World} {n : Nat} {x0 x1 : Value} {t : TypeId} (h : n = w.heap.size) : ∀ j u, [x0, x1][j]? = some u → (w.alloc (.cells #[x0, x1] t)).cell? ((⟨n, 0, none⟩ : Addr).add j) = some u := by
  subst h
  intro j u hj
  rw [show (⟨w.heap.size, 0, none⟩ : Addr).add j = ⟨w.heap.size, j, none⟩ from by unfold Addr.add; split <;> simp_all, World.cell?_alloc_new]
  match j, hj with
  | 0, hj => exact hj
  | 1, hj => exact hj

theorem two_one (a b : Int) : ∀ u ∈ [i6 a, i6 b], u.oneCell' = true := by intro u hu; simp at hu; rcases hu with rfl | rfl <;> rfl

set_option maxHeartbeats 1000000 in
set_option maxRecDepth 100000 in
theorem chnext_no (p : Nat) (s : List UInt8) (W C : Int) (pl i mb cap : Nat) (q : Option Addr) (w : World) (h : Fin w p s W C pl i mb q cap) (hi : s.length ≤ pl) :
    Calls Try.prog 36 #[.pointer (some ⟨p, 0, none⟩)] w fun z w' => z = .returned (.slice none 0 0) ∧ Same w w' := by
  have c0 := h.blk.cell 0
  have c3 := h.blk.cell 3
  simp only [List.getElem?_toArray, List.getElem?_cons_succ, List.getElem?_cons_zero] at c0 c3
  have hd : decide (s.length ≤ pl) = true := by simpa using hi
  go_enter Try.func36, Try.ntmps36
  go_upto_region 1 with fail
  go_quiet (fail)
  go_wp2_with fail
  go_ret
  exact ⟨rfl, (Keeps.refl _ _).drewN _⟩

theorem prevO_some (s : List UInt8) (m : Nat) (h : 0 ≤ prevO s m) : ∃ m' : Nat, prevO s m = m' ∧ m' + 3 ≤ s.length ∧ m + 3 ≤ s.length ∧ k3 s m' = k3 s m := by
  unfold prevO at h ⊢
  by_cases hl : m + 3 ≤ s.length
  · rw [if_pos hl] at h ⊢
    cases ho : lastK s (k3 s m) m with
    | none => rw [ho] at h; exact absurd h (by decide)
    | some r => exact ⟨r, rfl, (lastK_lt s _ _ _ ho).2.1, hl, (lastK_lt s _ _ _ ho).2.2⟩
  · rw [if_neg hl] at h; exact absurd h (by decide)

theorem fin_ahead {w : World} {p : Nat} {s : List UInt8} {W C : Int} {pl i mb g cap : Nat} (h : Fin w p s W C pl i mb (some ⟨g, 0, none⟩) cap) (j : Nat) (hj : j < i) : w.cell? ⟨g, j, none⟩ = some (i6 (prevO s j)) := by
  rw [h.own.cell j (by omega)]
  simp [hj]

/-- What Next leaves. -/
def NextLeft (p : Nat) (s : List UInt8) (W C : Int) (i mb : Nat) (q : Option Addr) (w w' : World) : Prop :=
  ∃ q' c', Fin w' p s W C (i + 1) (i + 1) mb q' c' ∧ Keeps (finF p mb q) w w' ∧ (∀ k, sblk q' k → sblk q k ∨ w.heap.size ≤ k)

set_option maxHeartbeats 4000000 in
set_option maxRecDepth 100000 in
theorem chnext_yes (p : Nat) (s : List UInt8) (W C : Int) (i mb cap : Nat) (q : Option Addr) (w : World) (h : Fin w p s W C i i mb q cap) (hi : i < s.length) (hs : s.length ≤ 1000000) :
    Calls Try.prog 36 #[.pointer (some ⟨p, 0, none⟩)] w fun z w' => ∃ r rc, z = .returned (.slice r (foundL s i W C).length rc) ∧ Sl 70 2 w' r rc (foundL s i W C).length (cellsF (foundL s i W C)) ∧ NextLeft p s W C i mb q w w' := by
  have c0 := h.blk.cell 0
  have c3 := h.blk.cell 3
  have cf := h.blk.frozen 3
  have hpl := h.blk.lt
  simp only [List.getElem?_toArray, List.getElem?_cons_succ, List.getElem?_cons_zero] at c0 c3
  have hd : decide (s.length ≤ i) = false := by simpa using hi
  obtain ⟨i0, HI⟩ := info_hid Try.infoF
  go_enter Try.func36, Try.ntmps36
  go_upto_region 1 with fail
  go_quiet (fail)
  have h1 : Fin ((w.drewN nq).setCell ⟨p, 3, none⟩ (i6 ((i + 1 : Nat) : Int))) p s W C (i + 1) i mb q cap := by
    have hk : Keeps (fun k => k = p) w ((w.drewN nq).setCell ⟨p, 3, none⟩ (i6 ((i + 1 : Nat) : Int))) := Keeps.setCell (p := ⟨p, 3, none⟩) ((Keeps.refl (fun k => k = p) w).drewN nq) (fun _ => rfl) _
    refine ⟨?_, map_keeps h.map hk h.ne1, h.own.keeps hk (fun b hb e => h.ne2 (e ▸ hb)), h.ne1, h.ne2, h.ne3⟩
    have := (h.blk.keeps ((Keeps.refl (fun _ => False) w).drewN nq) (fun h => h)).set 3 (i6 ((i + 1 : Nat) : Int))
    simpa using this
  have hk1 : Keeps (finF p mb q) w ((w.drewN nq).setCell ⟨p, 3, none⟩ (i6 ((i + 1 : Nat) : Int))) := Keeps.setCell (p := ⟨p, 3, none⟩) ((Keeps.refl _ w).drewN nq) (fun _ => .inl rfl) _
  have hen := hid (chenter_any p s W C (i + 1) i mb cap q _ h1 hi hs)
  go_wp2_with ((go_at_call 57; refine hen.out.mono ?_; rintro z w1 ⟨rfl, q', c', hF1, hk2, hq2⟩))
  obtain ⟨g, rfl⟩ := hF1.own.ex (by omega)
  have hk3 : Keeps (finF p mb q) w w1 := hk1.trans hk2
  have hq3 : ∀ k, sblk (some ⟨g, 0, none⟩) k → sblk q k ∨ w.heap.size ≤ k := fun k e => (hq2 k e).imp id fun h => by simp at h; exact h
  have hst := found_start s i W C
  have hpv := prevO_lt s i
  have hz1 := hk3.size
  clear hen h1 hk1 hk2 hq2 c0 c3 cf hd
  go_loopw [4, 5, 6, 7] (fun out b k sn wx => ∃ (L : List (Nat × Nat)) (best seen : Nat) (kk : Int) (r : Option Addr) (rc : Nat), out = .slice r L.length rc ∧ b = i6 best ∧ k = i6 kk ∧ sn = i6 seen ∧ Sl 70 2 wx r rc L.length (cellsF L) ∧ (∀ b, sblk r b → w1.heap.size ≤ b) ∧ Same w1 wx ∧
      L ++ restC s i W C kk best seen = foundL s i W C ∧ -1 ≤ kk ∧ kk < i ∧ (seen : Int) + kk < i ∧ L.length ≤ seen ∧ (0 ≤ kk → ∃ m : Nat, kk = m ∧ m + 3 ≤ s.length ∧ i + 3 ≤ s.length ∧ k3 s m = k3 s i)) (fun _ _ k _ _ => (intOf k + 1).toNat)
  case atStart =>
    refine ⟨[], 0, 0, prevO s i, none, 0, rfl, rfl, rfl, rfl, Sl.nil _ _ _, by simp [sblk], Keeps.refl _ _, by rw [hst]; rfl, hpv.1, hpv.2, by simpa using hpv.2, Nat.le_refl _, ?_⟩
    intro h0
    obtain ⟨m', e1, e2, e3, e4⟩ := prevO_some s i h0
    exact ⟨m', e1, e2, e3, e4⟩
  case round =>
    obtain ⟨L, best, seen, kk, r, rc, rfl, rfl, rfl, rfl, hR, hge, hsm, hrest, hk0, hki, hsi, hLs, hkk⟩ := hrel
    clear hst hpv
    have hF2 := hF1.keeps hsm (fun _ _ h => h)
    have c0 := hF2.blk.cell 0
    have c1 := hF2.blk.cell 1
    have c2 := hF2.blk.cell 2
    have c5 := hF2.blk.cell 5
    simp only [List.getElem?_toArray, List.getElem?_cons_succ, List.getElem?_cons_zero] at c0 c1 c2 c5
    by_cases h0 : 0 ≤ kk
    · obtain ⟨m, rfl, hm3, hi3, hmk⟩ := hkk h0
      have hmi : m < i := by omega
      have hstep := rest_step s i W C m best seen hmi hm3 hi3 hmk
      have hpm := prevO_lt s m
      have hne : ((m : Int) != -1) = true := by simp
      have hw0 : IntKind.i64.wrap ((i : Int) - (m : Int)) = (i : Int) - (m : Int) := IntWalk.i64_in _ (by omega)
      have hA := hid (fun w0 => alike_any s m i w0 hmi (by omega) hs)
      have hal := aliN_le s m i
      generalize aliN s m i = n at *
      rw [hstep] at hrest
      have hgl := hF1.lt g (.inr (.inr rfl))
      have hnx : 0 ≤ prevO s m → ∃ m' : Nat, prevO s m = m' ∧ m' + 3 ≤ s.length ∧ i + 3 ≤ s.length ∧ k3 s m' = k3 s i := fun h0 => by
        obtain ⟨m', e1, e2, e3, e4⟩ := prevO_some s m h0
        exact ⟨m', e1, e2, hi3, e4.trans hmk⟩
      have H1 := hid (show L.length + 1 ≤ maxLen by unfold maxLen; omega)
      have H2 := hid (show (L.length + 1) * 16 ≤ 140737488355328 by omega)
      have hnx' := hid hnx
      have hmi3 : ((i - m : Nat) : Int) = (i : Int) - m := by omega
      clear hstep hnx hkk c0
      have c0 := hF2.blk.cell 0
      simp only [List.getElem?_toArray, List.getElem?_cons_zero] at c0
      by_cases hc1 : (i : Int) - m ≤ W
      · by_cases hc2 : (seen : Int) < C
        · rw [if_pos ⟨hc1, hc2⟩] at hrest
          by_cases hb : best < n
          · rw [if_pos hb] at hrest
            have HRS := hid hrest
            have hE := hid hmi3
            clear hrest hmi3
            go_wp2_with (first | (at_builtin; refine wpList_push _ rfl (.tmp 70) (.tmp 76) 73 rfl 70 i0 (.agg #[.int .i64 0, .int .i64 0]) 2 16 Try.underlying73 HI zF (by decide) r L.length rc (cellsF L) ?_ ?_ ⟨w4.heap.size, 0, none⟩ 1 1 [i6 n, i6 ((i : Int) - m)] ?_ rfl ?_ (two_one _ _) H1 H2 ?_; exact rfl; exact hR4.own.alloc _; exact rfl; exact cells_two_at (by simp); intro r2 rc2 w6 hown6 hk6 hat6 _; have HR := hid (Sl.push hsm4 hge hown6 hk6 hat6); have hF6 := hF4.keeps HR.out.2.2.2.1 (fun b hb e => by have := hge b e; have := hF1.lt b hb; omega); have d5 := hF6.blk.cell 5; have dat := fin_ahead hF6 m (by omega); simp only [List.getElem?_toArray, List.getElem?_cons_succ, List.getElem?_cons_zero] at d5; clear hown6 hk6 hat6) | (go_at_call 58; refine (hA.out _).mono ?_; rintro z w4 ⟨rfl, hs4⟩; have hF4 := hF2.keeps hs4 (fun _ _ h => h); have hR4 := hR.same hs4; have hsm4 := hsm.trans hs4; have d5 := hF4.blk.cell 5; have dat := fin_ahead hF4 m (by omega); simp only [List.getElem?_toArray, List.getElem?_cons_succ, List.getElem?_cons_zero] at d5))
            obtain ⟨t1, t2, t3, t4, t5⟩ := HR.out
            refine ⟨⟨L ++ [(n, i - m)], n, seen + 1, prevO s m, r2, rc2, by simp, rfl, rfl, by go_num, ?_, t2, t3, by rw [List.append_assoc]; exact HRS.out, hpm.1, by omega, by push_cast; omega, by simp; omega, hnx'.out⟩, by simp [intOf]; omega⟩
            rw [cellsF_snoc, List.length_append, hE.out]
            exact t1
          · rw [if_neg hb] at hrest
            have HRS := hid hrest
            clear hrest hmi3
            go_wp2_with (first | (go_at_call 58; refine (hA.out _).mono ?_; rintro z w4 ⟨rfl, hs4⟩; have hF4 := hF2.keeps hs4 (fun _ _ h => h); have hR4 := hR.same hs4; have hsm4 := hsm.trans hs4; have d5 := hF4.blk.cell 5; have dat := fin_ahead hF4 m (by omega); simp only [List.getElem?_toArray, List.getElem?_cons_succ, List.getElem?_cons_zero] at d5))
            exact ⟨⟨L, best, seen + 1, prevO s m, r, rc, rfl, rfl, rfl, by go_num, hR4, hge, hsm4, HRS.out, hpm.1, by omega, by push_cast; omega, by omega, hnx'.out⟩, by simp [intOf]; omega⟩
        · rw [if_neg (fun h => hc2 h.2), List.append_nil] at hrest
          have HRS := hid hrest
          have hc2' : decide ((seen : Int) < C) = false := by simpa using hc2
          have hc1' : decide ((i : Int) - m ≤ W) = true := by simpa using hc1
          clear hrest hmi3 hc2
          go_wp2_with fail
          go_ret
          rw [← HRS.out]
          exact ⟨r, rc, rfl, hR, _, _, hF2, hk3.trans (Keeps.of_same hsm), hq3⟩
      · rw [if_neg (fun h => hc1 h.1), List.append_nil] at hrest
        have HRS := hid hrest
        have hc1' : decide ((i : Int) - m ≤ W) = false := by simpa using hc1
        clear hrest hmi3 hc1
        go_wp2_with fail
        go_ret
        rw [← HRS.out]
        exact ⟨r, rc, rfl, hR, _, _, hF2, hk3.trans (Keeps.of_same hsm), hq3⟩
    · have hk1 : kk = -1 := by omega
      subst hk1
      have HR := hid hrest
      clear hrest hkk
      go_wp2_with fail
      go_ret
      have hr := HR.out
      unfold restC at hr
      rw [if_pos (by decide), List.append_nil] at hr
      rw [← hr]
      exact ⟨r, rc, rfl, hR, _, _, hF2, hk3.trans (Keeps.of_same hsm), hq3⟩
end Go.Proofs.Ytalopgbkjgjppaa
