/- The walks of greedy.Longest and of the document's At and Longest. -/
import Derived.Test.YtalopgbkjgjppaaNx
namespace Go.Proofs.Ytalopgbkjgjppaa
open Go.RowKit Go.Cas

/-- The last one found; zero where there is none. -/
def lastF (l : List (Nat × Nat)) : Nat × Nat := (l.getLast?).getD (0, 0)

theorem last_get (l : List (Nat × Nat)) (h : 0 < l.length) : l[l.length - 1]? = some (lastF l) := by
  unfold lastF
  rw [List.getLast?_eq_getElem?]
  have h1 : l.length - 1 < l.length := by omega
  simp [h1]

set_option maxHeartbeats 2000000 in
set_option maxRecDepth 100000 in
theorem longest_any (L : List (Nat × Nat)) (r : Option Addr) (rc : Nat) (w : World) (hS : Sl 70 2 w r rc L.length (cellsF L)) (hd : ∀ p ∈ L, p.2 ≤ 1048576) (hL : L.length ≤ 1000000) :
    Calls Try.prog 35 #[.slice r L.length rc] w fun z w' => z = .returned (.tuple #[.agg #[i6 (lastF L).1, i6 (lastF L).2], .bool (decide (0 < L.length))]) ∧ Same w w' := by
  by_cases h0 : 0 < L.length
  · obtain ⟨g, rfl⟩ := hS.ex h0
    have hg := last_get L h0
    obtain ⟨e1, e2⟩ := cellsF_get L _ _ hg
    have d1 := hS.cell ((L.length - 1) * 2) (by omega)
    have d2 := hS.cell ((L.length - 1) * 2 + 1) (by omega)
    rw [e1] at d1
    rw [e2] at d2
    have hdd : (lastF L).2 ≤ 1048576 := hd _ (List.mem_of_getElem? hg)
    have hgl := hS.lt g rfl
    generalize lastF L = x at *
    obtain ⟨n, d⟩ := x
    have hm : ((L.length : Int) - 1) = ((L.length - 1 : Nat) : Int) := by omega
    obtain ⟨m, hm2⟩ : ∃ m, L.length = m + 1 := ⟨L.length - 1, by omega⟩
    rw [hm2] at d1 d2 ⊢
    rw [Nat.add_sub_cancel] at d1 d2
    clear hg e1 e2 hm hS hd
    dsimp only at d1 d2 hdd ⊢
    go_enter Try.func35, Try.ntmps35
    go_wp2
    refine wp_loop_rounds 1 ?_
    rw [rounds_succ]
    go_wp2
    refine bodyPost_ret (v := .tuple #[.agg #[i6 n, i6 d], .bool true]) (by simp [results, Try.results35, go_sem]) rfl ⟨by simp, ?_⟩
    repeat (first | exact Keeps.refl _ _ | refine Keeps.drew ?_ | refine Keeps.drewN ?_ _ | refine Keeps.alloc ?_ _ | refine Keeps.setCell ?_ (by simp; try omega) _ | exact Hid.out (by assumption) | refine Keeps.trans ?_ (by assumption))
  · have h00 : L.length = 0 := by omega
    obtain rfl : L = [] := List.eq_nil_of_length_eq_zero h00
    go_enter Try.func35, Try.ntmps35
    go_wp2
    refine wp_loop_rounds 1 ?_
    rw [rounds_succ]
    go_wp2
    refine bodyPost_ret (v := .tuple #[.agg #[i6 0, i6 0], .bool false]) (by simp [results, Try.results35, go_sem]) rfl ⟨by simp [lastF], ?_⟩
    repeat (first | exact Keeps.refl _ _ | refine Keeps.drew ?_ | refine Keeps.drewN ?_ _ | refine Keeps.alloc ?_ _ | refine Keeps.setCell ?_ (by simp; try omega) _ | exact Hid.out (by assumption) | refine Keeps.trans ?_ (by assumption))

theorem extract_k3 (s : List UInt8) (i : Nat) (hi : i + 3 ≤ s.length) : (⟨s.toArray⟩ : ByteArray).extract i (i + 3) = ⟨#[(k3 s i).1, (k3 s i).2.1, (k3 s i).2.2]⟩ := by
  apply ByteArray.ext
  simp only [ByteArray.data_extract, List.extract_toArray, List.extract_eq_take_drop]
  congr 1
  rw [show i + 3 - i = 3 from by omega, List.drop_eq_getElem_cons (show i < s.length by omega), List.drop_eq_getElem_cons (show i + 1 < s.length by omega), List.drop_eq_getElem_cons (show i + 1 + 1 < s.length by omega)]
  have g0 : s[i]?.getD 0 = s[i] := by simp [show i < s.length from by omega]
  have g1 : s[i + 1]?.getD 0 = s[i + 1] := by simp [show i + 1 < s.length from by omega]
  have g2 : s[i + 2]?.getD 0 = s[i + 2] := by simp [show i + 2 < s.length from by omega]
  unfold k3
  rw [g0, g1, g2]
  rfl

theorem extract_eq (s : List UInt8) (i m : Nat) (hi : i + 3 ≤ s.length) (hm : m + 3 ≤ s.length) : ((⟨s.toArray⟩ : ByteArray).extract i (i + 3) = (⟨s.toArray⟩ : ByteArray).extract m (m + 3)) ↔ k3 s i = k3 s m := by
  rw [extract_k3 s i hi, extract_k3 s m hm]
  constructor
  · intro h
    have := congrArg ByteArray.data h
    simp at this
    exact Prod.ext this.1 (Prod.ext this.2.1 this.2.2)
  · intro h; rw [h]

theorem Try.infoG : (Try.prog.info? 56).map (fun i => (i.zero, i.size, i.bytes)) = some (some (.agg #[.int .i64 0, .int .i64 0]), 2, 16) := by kernel_rfl

set_option maxHeartbeats 4000000 in
set_option maxRecDepth 100000 in
theorem rat_any (s : List UInt8) (i : Nat) (W C : Int) (w : World) (hi : i < s.length) (hs : s.length ≤ 1000000) :
    Calls Try.prog 46 #[.string ⟨s.toArray⟩, i6 i, i6 W, i6 C] w fun z w' => ∃ r rc, z = .returned (.slice r (foundL s i W C).length rc) ∧ Sl 56 2 w' r rc (foundL s i W C).length (cellsF (foundL s i W C)) ∧ Same w w' := by
  obtain ⟨i0, HI⟩ := info_hid Try.infoG
  go_enter Try.func46, Try.ntmps46
  go_wp2_with fail
  go_loopw [9, 10, 11, 12] (fun out b sn dd wx => ∃ (L : List (Nat × Nat)) (best seen d : Nat) (r : Option Addr) (rc : Nat), out = .slice r L.length rc ∧ b = i6 best ∧ sn = i6 seen ∧ dd = i6 d ∧ 1 ≤ d ∧ d ≤ i + 1 ∧ seen < d ∧ L.length ≤ seen ∧ Sl 56 2 wx r rc L.length (cellsF L) ∧ (∀ b, sblk r b → w.heap.size ≤ b) ∧ Same w wx ∧
      L ++ foundGo s i W C (i + 1 - d) d best seen = foundL s i W C) (fun _ _ _ dd _ => i + 1 - (intOf dd).toNat)
  case atStart => exact ⟨[], 0, 0, 1, none, 0, rfl, rfl, rfl, rfl, Nat.le_refl _, by omega, by omega, Nat.le_refl _, Sl.nil _ _ _, by simp [sblk], Keeps.refl _ _, by rw [Nat.add_sub_cancel]; rfl⟩
  case round =>
    obtain ⟨L, best, seen, d, r, rc, rfl, rfl, rfl, rfl, hd1, hdi, hsd, hLs, hR, hge, hsm, hrest⟩ := hrel
    by_cases hdi' : d ≤ i
    · have hfu : i + 1 - d = (i + 1 - (d + 1)) + 1 := by omega
      rw [hfu, foundGo] at hrest
      have dc0 : decide ((d : Int) ≤ (i : Int)) = true := by simpa using hdi'
      have dc00 : decide (d ≤ i) = true := by simpa using hdi'
      by_cases hc : (d : Int) ≤ W ∧ (seen : Int) < C
      · rw [if_pos hc] at hrest
        obtain ⟨hc1, hc2⟩ := hc
        by_cases hl : i + 3 ≤ s.length
        · obtain ⟨m, hm⟩ : ∃ m : Nat, m = i - d := ⟨_, rfl⟩
          have i7 : (i : Int) - (d : Int) = (m : Int) := by omega
          have hml : m + 3 ≤ s.length := by omega
          have hl' : decide ((s.length : Int) < (i : Int) + 3) = false := by simp; omega
          have hex := extract_eq s i m hl hml
          have HM := hid (matches_any s i d)
          rw [← hm] at hrest HM
          by_cases hk : k3 s m = k3 s i
          · rw [if_pos ⟨hl, hk⟩] at hrest
            have hx := hex.2 hk.symm
            have HA := hid (fun w0 => HM.out w0 hd1 hdi' (by omega) hs)
            have H1 := hid (show L.length + 1 ≤ maxLen by unfold maxLen; omega)
            have H2 := hid (show (L.length + 1) * 16 ≤ 140737488355328 by omega)
            generalize aliN s m i = n at *
            clear HM hex hfu hm
            by_cases hb : best < n
            · rw [if_pos hb] at hrest
              have HRS := hid hrest
              clear hrest
              go_upto_region 6 with fail
              go_quiet (fail)
              go_wp2_with (first | (at_builtin; refine wpList_push _ rfl (.tmp 61) (.tmp 65) 89 rfl 56 i0 (.agg #[.int .i64 0, .int .i64 0]) 2 16 Try.underlying89 HI zF (by decide) r L.length rc (cellsF L) ?_ ?_ ⟨w4.heap.size, 0, none⟩ 1 1 [i6 n, i6 d] ?_ rfl ?_ (two_one _ _) H1 H2 ?_; exact rfl; exact hR4.own.alloc _; exact rfl; exact cells_two_at (by simp); intro r2 rc2 w6 hown6 hk6 hat6 _; have HR := hid (Sl.push hsm4 hge hown6 hk6 hat6); clear hown6 hk6 hat6) | (go_at_call 55; refine (HA.out _).mono ?_; rintro z w4 ⟨rfl, hs4⟩; have hR4 := (hR.same ((Keeps.refl _ _).drewN nq)).same hs4; have hsm4 := (hsm.drewN nq).trans hs4))
              obtain ⟨t1, t2, t3, t4, t5⟩ := HR.out
              refine ⟨⟨L ++ [(n, d)], n, seen + 1, d + 1, r2, rc2, by simp, rfl, by go_num, by go_num, by omega, by omega, by omega, by simp; omega, ?_, t2, t3, by rw [List.append_assoc]; exact HRS.out⟩, by simp [intOf]; omega⟩
              rw [cellsF_snoc, List.length_append]
              exact t1
            · rw [if_neg hb] at hrest
              have HRS := hid hrest
              clear hrest
              go_upto_region 6 with fail
              go_quiet (fail)
              go_wp2_with (first | (go_at_call 55; refine (HA.out _).mono ?_; rintro z w4 ⟨rfl, hs4⟩; have hR4 := (hR.same ((Keeps.refl _ _).drewN nq)).same hs4; have hsm4 := (hsm.drewN nq).trans hs4))
              exact ⟨⟨L, best, seen + 1, d + 1, r, rc, rfl, rfl, by go_num, by go_num, by omega, by omega, by omega, by omega, hR4, hge, hsm4, HRS.out⟩, by simp [intOf]; omega⟩
          · rw [if_neg (fun h => hk h.2)] at hrest
            have hx : (((⟨s.toArray⟩ : ByteArray).extract i (i + 3)).toList == ((⟨s.toArray⟩ : ByteArray).extract m (m + 3)).toList) = false := by
              rw [beq_eq_false_iff_ne, ne_eq, ByteArray.toList_eq, ByteArray.toList_eq]
              intro h
              exact hk (hex.1 (ByteArray.ext (Array.ext' h))).symm
            have HRS := hid hrest
            clear hrest HM hex hfu hm
            go_upto_region 6 with fail
            go_quiet (fail)
            go_wp2_with fail
            exact ⟨⟨L, best, seen, d + 1, r, rc, rfl, rfl, rfl, by go_num, by omega, by omega, by omega, by omega, hR.same ((Keeps.refl _ _).drewN nq), hge, hsm.drewN nq, HRS.out⟩, by simp [intOf]; omega⟩
        · rw [if_neg (fun h => hl h.1)] at hrest
          have HRS := hid hrest
          clear hrest hfu
          have hl' : decide ((s.length : Int) < (i : Int) + 3) = true := by simp; omega
          go_upto_region 6 with fail
          go_quiet (fail)
          go_wp2_with fail
          exact ⟨⟨L, best, seen, d + 1, r, rc, rfl, rfl, rfl, by go_num, by omega, by omega, by omega, by omega, hR.same ((Keeps.refl _ _).drewN nq), hge, hsm.drewN nq, HRS.out⟩, by simp [intOf]; omega⟩
      · rw [if_neg hc, List.append_nil] at hrest
        have HRS := hid hrest
        clear hrest
        by_cases hc1 : (d : Int) ≤ W
        · have hc2 : decide ((seen : Int) < C) = false := by
            simp only [decide_eq_false_iff_not]; exact fun h => hc ⟨hc1, h⟩
          have hc1' : decide ((d : Int) ≤ W) = true := by simpa using hc1
          clear hc
          go_wp2_with fail
          go_ret
          rw [← HRS.out]
          exact ⟨r, rc, rfl, hR, hsm⟩
        · have hc1' : decide ((d : Int) ≤ W) = false := by simpa using hc1
          clear hc
          go_wp2_with fail
          go_ret
          rw [← HRS.out]
          exact ⟨r, rc, rfl, hR, hsm⟩
    · have hd2 : d = i + 1 := by omega
      subst hd2
      rw [Nat.sub_self, foundGo, List.append_nil] at hrest
      have HRS := hid hrest
      clear hrest
      go_wp2_with fail
      go_ret
      rw [← HRS.out]
      exact ⟨r, rc, rfl, hR, hsm⟩
end Go.Proofs.Ytalopgbkjgjppaa
