/- The walks of the finder of chains: New, Place, enter. -/
import Derived.Test.YtalopgbkjgjppaaCk
import Derived.Laws.IdiomStrings
namespace Go.Proofs.Ytalopgbkjgjppaa
open Go.RowKit Go.Cas Go.Maps

theorem Try.infoI : (Try.prog.info? 3).map (fun i => (i.zero, i.size, i.bytes)) = some (some (.int .i64 0), 1, 8) := by kernel_rfl
theorem Try.zeroI (w : World) : (zeroValue 3).run Try.prog w = .ok (.int .i64 0) w := by kernel_rfl

theorem map_keeps {H : Type} {P : Program} {k : TypeId} {R : Value → Option (DataW H × List MemPlace)} {S : Nat → Prop} {w w' : World} {b n : Nat} {D : DataW H} (h : w.ownsMap P k R b n D) (K : Keeps S w w') (hb : ¬ S b) : w'.ownsMap P k R b n D := by
  have hlt := h.lt
  obtain ⟨es, clock, h1, r⟩ := h
  exact ⟨es, clock, (K.block b hlt hb).trans h1, r⟩

/-- A finder: its text, window and cut; the place that is looked at next; so many places have been entered. -/
structure Fin (w : World) (p : Nat) (s : List UInt8) (W C : Int) (pl i mb : Nat) (q : Option Addr) (cap : Nat) : Prop where
  blk : Blk w p #[.string ⟨s.toArray⟩, i6 W, i6 C, i6 pl, .map (some mb), .slice q i cap] 105
  map : w.ownsMap Try.prog 116 (plainElem (H := Unit) Try.prog 3) mb i (mapD Unit s i)
  own : Sl 3 1 w q cap i ((List.range i).map fun j => i6 (prevO s j))
  ne1 : mb ≠ p
  ne2 : ¬ sblk q p
  ne3 : ¬ sblk q mb

/-- The blocks of a finder. -/
def finF (p mb : Nat) (q : Option Addr) : Nat → Prop := fun k => k = p ∨ k = mb ∨ sblk q k

theorem Fin.keeps {S : Nat → Prop} {w w' : World} {p : Nat} {s : List UInt8} {W C : Int} {pl i mb cap : Nat} {q : Option Addr} (h : Fin w p s W C pl i mb q cap) (k : Keeps S w w') (hn : ∀ b, finF p mb q b → ¬ S b) : Fin w' p s W C pl i mb q cap :=
  ⟨h.blk.keeps k (hn _ (.inl rfl)), map_keeps h.map k (hn _ (.inr (.inl rfl))), h.own.keeps k fun b hb => hn b (.inr (.inr hb)), h.ne1, h.ne2, h.ne3⟩

theorem Fin.lt {w : World} {p : Nat} {s : List UInt8} {W C : Int} {pl i mb cap : Nat} {q : Option Addr} (h : Fin w p s W C pl i mb q cap) : ∀ b, finF p mb q b → b < w.heap.size := by
  rintro b (rfl | rfl | e)
  · exact h.blk.lt
  · exact h.map.lt
  · exact h.own.lt b e

set_option maxHeartbeats 1000000 in
theorem chnew_any (s : List UInt8) (W C : Int) (w : World) :
    Calls Try.prog 33 #[.string ⟨s.toArray⟩, i6 W, i6 C] w fun z w' => ∃ p mb, z = .returned (.pointer (some ⟨p, 0, none⟩)) ∧ Same w w' ∧ Fin w' p s W C 0 0 mb none 0 ∧ w.heap.size ≤ p ∧ w.heap.size ≤ mb := by
  have hmm := @run_makeMap Try.prog
  go_enter Try.func33, Try.ntmps33
  go_wp2
  go_ret
  refine ⟨_, w.heap.size, rfl, ((Keeps.refl _ _).alloc _).alloc _, ⟨Blk.new_at (by simp), ?_, Sl.nil _ _ _, by simp, by simp [sblk], by simp [sblk]⟩, by simp, by simp⟩
  exact (World.ownsMap_made w _ _ _).alloc _

set_option maxHeartbeats 1000000 in
theorem chplace_any (p : Nat) (s : List UInt8) (W C : Int) (pl i mb cap : Nat) (q : Option Addr) (w : World) (h : Fin w p s W C pl i mb q cap) :
    Calls Try.prog 34 #[.pointer (some ⟨p, 0, none⟩)] w fun z w' => z = .returned (i6 pl) ∧ w = w' := by
  have hc := h.blk.cell 3
  simp only [List.getElem?_toArray, List.getElem?_cons_succ, List.getElem?_cons_zero] at hc
  go_enter Try.func34, Try.ntmps34
  go_wp2
  go_ret
  exact ⟨rfl, rfl⟩

theorem conv_key (s : List UInt8) (i : Nat) (hi : i + 3 ≤ s.length) (w : World) :
    ∃ cap w1, (convert 9 83 (.string ((⟨s.toArray⟩ : ByteArray).extract i (i + 3)))).run Try.prog w = .ok (.slice (some ⟨w.heap.size, 0, none⟩) 3 cap) w1 ∧ Same w w1 ∧ w.heap.size < w1.heap.size ∧
      w1.cell? ⟨w.heap.size, 0, none⟩ = some (b8 (k3 s i).1) ∧ w1.cell? ⟨w.heap.size, 1, none⟩ = some (b8 (k3 s i).2.1) ∧ w1.cell? ⟨w.heap.size, 2, none⟩ = some (b8 (k3 s i).2.2) := by
  have e : (⟨s.toArray⟩ : ByteArray).extract i (i + 3) = ⟨#[(k3 s i).1, (k3 s i).2.1, (k3 s i).2.2]⟩ := by
    apply ByteArray.ext
    simp only [ByteArray.data_extract, List.extract_toArray, List.extract_eq_take_drop]
    congr 1
    rw [show i + 3 - i = 3 from by omega, List.drop_eq_getElem_cons (show i < s.length by omega), List.drop_eq_getElem_cons (show i + 1 < s.length by omega), List.drop_eq_getElem_cons (show i + 1 + 1 < s.length by omega)]
    have g0 : s[i]?.getD 0 = s[i] := by simp [show i < s.length from by omega]
    have g1 : s[i + 1]?.getD 0 = s[i + 1] := by simp [show i + 1 < s.length from by omega]
    have g2 : s[i + 2]?.getD 0 = s[i + 2] := by simp [show i + 2 < s.length from by omega]
    unfold k3
    rw [g0, g1, g2]
    rfl
  rw [e]
  have hr := run_bytes_of_string (P := Try.prog) w 9 83 5 ⟨#[(k3 s i).1, (k3 s i).2.1, (k3 s i).2.2]⟩ Try.underlying9 Try.underlying83 Try.underlying5
  refine ⟨_, _, hr, ((Keeps.refl _ _).drew).alloc _, by simp, ?_, ?_, ?_⟩
  all_goals
    refine (World.cell?_alloc_mark w.drew _ _ _ _).trans ?_
    unfold bytesRow
    rw [Array.getElem?_append_left (by simp)]
    simp

def lkC (o : Option Nat) : Int := match o with | some p => (p : Int) | none => 0

theorem prevO_yes (s : List UInt8) (i : Nat) (hi : i + 3 ≤ s.length) : prevO s i = if (lastK s (k3 s i) i).isSome then lkC (lastK s (k3 s i) i) else -1 := by
  unfold prevO lkC
  rw [if_pos hi]
  cases lastK s (k3 s i) i <;> rfl

def lkV (o : Option Nat) : Value := .tuple #[i6 (lkC o), .bool o.isSome]

theorem look_key (s : List UInt8) (K : UInt8 × UInt8 × UInt8) (mb n i : Nat) (W : World) (h : W.ownsMap Try.prog 116 (plainElem (H := Unit) Try.prog 3) mb n (mapD Unit s i)) :
    (Instr.lookup 103 (.map (some mb)) (kv K) true).run Try.prog W = .ok (lkV (lastK s K i)) W := by
  obtain ⟨v, ps, hrun, hv⟩ := h.look_ok Try.keyed Try.underlying103 (Try.zeroI W) (zd := dI 0) (zp := []) (plainElem_int Try.underlying3 (by decide)) (keyOf_kv K)
  obtain ⟨c, rfl, hc, _⟩ := plainElem_int_inv Try.underlying3 hv
  rw [mapD_has] at hrun
  rw [mapD_at] at hc
  rw [hrun]
  cases ho : lastK s K i with
  | none => rw [ho] at hc; simp at hc; obtain ⟨rfl, _⟩ := hc; rfl
  | some p => rw [ho] at hc; simp at hc; obtain ⟨rfl, _⟩ := hc; rfl

theorem i6_one (x : Int) : ∀ u ∈ [i6 x], u.oneCell' = true := by intro u hu; simp at hu; subst hu; rfl

theorem ch_step {w wc w6 : World} {p : Nat} {s : List UInt8} {W C : Int} {pl i mb cap c1 : Nat} {q q1 : Option Addr} {X : Obj} (h : Fin w p s W C pl i mb q cap) (hk1 : Keeps (fun k => k = mb) w wc)
    (hmap : wc.ownsMap Try.prog 116 (plainElem (H := Unit) Try.prog 3) mb (i + 1) (mapD Unit s (i + 1)))
    (hown6 : w6.ownsRow 0 3 1 (.slice q1 (i + 1) c1) (i + 1) (((List.range i).map fun j => i6 (prevO s j)) ++ [i6 (prevO s i)])) (hk6 : Keeps (sblk q) (wc.alloc X) w6) (hat6 : ∀ k, sblk q1 k → sblk q k ∨ k = (wc.alloc X).heap.size) :
    w6.cell? ⟨p, 5, none⟩ = some (.slice q i cap) ∧ w6.frozen? ⟨p, 5, none⟩ = false ∧ p < w6.heap.size ∧
    Hid (Fin (w6.setCell ⟨p, 5, none⟩ (.slice q1 (i + 1) c1)) p s W C pl (i + 1) mb q1 c1 ∧ Keeps (finF p mb q) w (w6.setCell ⟨p, 5, none⟩ (.slice q1 (i + 1) c1)) ∧ (∀ k, sblk q1 k → sblk q k ∨ w.heap.size ≤ k)) := by
  have e1 : (wc.alloc X).heap.size = wc.heap.size + 1 := by simp
  have e2 := hk1.size
  have hb6 := ((h.blk.keeps hk1 (fun e => h.ne1 e.symm)).alloc X).keeps hk6 h.ne2
  have hm6 := map_keeps hmap (((Keeps.refl (sblk q) wc).alloc X).trans hk6) h.ne3
  have hpl := h.blk.lt
  have hml := h.map.lt
  have hp1 : ¬ sblk q1 p := fun e => by
    rcases hat6 _ e with e | e
    · exact h.ne2 e
    · omega
  have hm1 : ¬ sblk q1 mb := fun e => by
    rcases hat6 _ e with e | e
    · exact h.ne3 e
    · omega
  have KS : Keeps (fun k => k = p) w6 (w6.setCell ⟨p, 5, none⟩ (.slice q1 (i + 1) c1)) := Keeps.setCell (p := ⟨p, 5, none⟩) (Keeps.refl (fun k => k = p) w6) (fun _ => rfl) _
  refine ⟨by simpa using hb6.cell 5, hb6.frozen 5, hb6.lt, hid ⟨⟨?_, map_keeps hm6 KS h.ne1, ?_, h.ne1, hp1, hm1⟩, ?_, ?_⟩⟩
  · have := hb6.set 5 (.slice q1 (i + 1) c1)
    simpa using this
  · refine Sl.keeps ⟨?_⟩ KS (fun b hb e => hp1 (e ▸ hb))
    rw [List.range_succ, List.map_append]
    exact hown6
  · exact (((hk1.mono (S' := finF p mb q) fun b _ e => .inr (.inl e)).alloc X).trans' hk6 fun b _ e => .inr (.inr e)).trans' KS fun b _ e => .inl e
  · intro k e
    rcases hat6 _ e with e | e
    · exact .inl e
    · exact .inr (by omega)

set_option maxHeartbeats 4000000 in
set_option maxRecDepth 100000 in
theorem chenter_any (p : Nat) (s : List UInt8) (W C : Int) (pl i mb cap : Nat) (q : Option Addr) (w : World) (h : Fin w p s W C pl i mb q cap) (hil : i < s.length) (hs : s.length ≤ 1000000) :
    Calls Try.prog 57 #[.pointer (some ⟨p, 0, none⟩), i6 i] w fun z w' => z = .returned (i6 (prevO s i)) ∧
      ∃ q' c', Fin w' p s W C pl (i + 1) mb q' c' ∧ Keeps (finF p mb q) w w' ∧ (∀ k, sblk q' k → sblk q k ∨ w.heap.size ≤ k) := by
  have c0 := h.blk.cell 0
  have c4 := h.blk.cell 4
  simp only [List.getElem?_toArray, List.getElem?_cons_succ, List.getElem?_cons_zero] at c0 c4
  obtain ⟨i0, HI⟩ := info_hid Try.infoI
  go_enter Try.func57, Try.ntmps57
  go_upto_if 16 with fail
  go_cut [5] (fun s5 wx => s5 = i6 (prevO s i) ∧ Keeps (fun k => k = mb) w wx ∧ wx.ownsMap Try.prog 116 (plainElem (H := Unit) Try.prog 3) mb (i + 1) (mapD Unit s (i + 1)))
  case first =>
    by_cases hi : i + 3 ≤ s.length
    · obtain ⟨kc, w1, hcv, hs1, hz1, k0, k1, k2⟩ := conv_key s i hi w
      have hap : (Instr.arrayAt 116 (.slice (some ⟨w.heap.size, 0, none⟩) 3 kc)).run Try.prog w1 = .ok (.pointer (some ⟨w.heap.size, 0, none⟩)) w1 := by
        simp [Instr.arrayAt, run_underlying Try.underlying116, Result.andThen]
      go_upto_region 4 with fail
      have hK : Blk (w1.alloc (.cells #[b8 (k3 s i).1, b8 (k3 s i).2.1, b8 (k3 s i).2.2] 116)) w1.heap.size #[b8 (k3 s i).1, b8 (k3 s i).2.1, b8 (k3 s i).2.2] 116 := Blk.new _ _ _
      have hF := h.keeps (hs1.alloc (.cells #[b8 (k3 s i).1, b8 (k3 s i).2.1, b8 (k3 s i).2.2] 116)) (fun _ _ h => h)
      have hS := hs1.alloc (.cells #[b8 (k3 s i).1, b8 (k3 s i).2.1, b8 (k3 s i).2.2] 116)
      clear hcv hap c0 c4 k0 k1 k2
      generalize w1.heap.size = X at *
      generalize w1.alloc (.cells #[b8 (k3 s i).1, b8 (k3 s i).2.1, b8 (k3 s i).2.2] 116) = W2 at *
      have hlook := fun n => look_key s (k3 s i) mb i i (W2.drewN n) hF.map
      have c0 := hF.blk.cell 4
      have d0 := hK.cell 0
      have d1 := hK.cell 1
      have d2 := hK.cell 2
      simp only [List.getElem?_toArray, List.getElem?_cons_succ, List.getElem?_cons_zero] at c0 d0 d1 d2
      unfold lkV at hlook
      go_cut [7, 8] (fun s7 s8 wx => s7 = i6 (lkC (lastK s (k3 s i) i)) ∧ s8 = .bool (lastK s (k3 s i) i).isSome ∧ Same W2 wx)
      case first =>
        go_quiet (fail)
        go_wp2_with fail
        go_meet
        exact ⟨rfl, rfl, (Keeps.refl _ _).drewN _⟩
      case rest =>
        obtain ⟨rfl, rfl, hs2⟩ := hcut
        replace hF := hF.keeps hs2 (fun _ _ h => h)
        replace hS := hS.trans hs2
        replace hK := hK.keeps hs2 (fun h => h)
        clear hlook c0 d0 d1 d2 hs2 hs1
        have hpv := prevO_yes s i hi
        go_upto_if 37 with fail
        go_cut [5, 8] (fun s5 s8 wx => s5 = i6 (prevO s i) ∧ wx = wc)
        case first =>
          cases ho : (lastK s (k3 s i) i).isSome with
          | true =>
            rw [ho] at hpv
            simp only [if_true] at hpv
            go_wp2_with fail
            go_meet
            exact ⟨by rw [hpv], rfl⟩
          | false =>
            rw [ho] at hpv
            simp only [Bool.false_eq_true, if_false] at hpv
            go_wp2_with fail
            go_meet
            exact ⟨by rw [hpv], rfl⟩
        case rest =>
          obtain ⟨rfl, rfl⟩ := hcut
          clear hpv
          obtain ⟨w5, hrun, r1, r2⟩ := World.ownsMap.store (w := wc.drew) hF.map Try.keyed Try.underlying103 (by unfold maxLen; omega) (keyOf_kv (k3 s i)) (plainElem_int (a := (i : Int)) Try.underlying3 (by simp [Lit.wf, IntKind.min, IntKind.max, IntKind.signed, IntKind.bits]; omega))
          have hK5 : Keeps (fun b => b = mb) wc w5 := (Keeps.grown ((Keeps.refl (fun b => b = mb) wc).drew) r2.grown (fun k e _ => by simpa using e.symm))
          have e4 := hF.blk.cell 4
          have e0 := hK.cell 0
          have e1 := hK.cell 1
          have e2 := hK.cell 2
          have l1 := hF.blk.lt
          have l2 := hK.lt
          have n1 : ¬ p = mb := fun e => hF.ne1 e.symm
          have n2 : ¬ X = mb := fun e => by have := h.map.lt; omega
          simp only [List.getElem?_toArray, List.getElem?_cons_succ, List.getElem?_cons_zero] at e4 e0 e1 e2
          go_upto_region 7 with fail
          refine wp_region_held_drew (S := (fun V => Keeps (fun b => b = mb) wc V)) (by kernel_rfl) (by (try dsimp only); exact (Keeps.refl _ _).drew) (fun hHeld => ?_)
          refine wpAnyH_take (i := 0) (oi := ⟨some 39, _, _, _, _, _⟩) (v := ?v0m) rfl (by kernel_rfl) (by kernel_rfl) (by kernel_rfl) (fun _ _ _ h => h) (Or.inl ⟨by rfl, ?h0m⟩) (by assumption) ?r0m
          case h0m => intro w hSw; (try dsimp only at hSw); go_simp; (try with_reducible rfl)
          try simp only [Act.put, List.setIfInBounds_toArray, List.set_cons_zero, List.set_cons_succ]
          refine wpAnyH_take (i := 1) (oi := ⟨some 40, _, _, _, _, _⟩) (v := ?v1m) rfl (by kernel_rfl) (by kernel_rfl) (by kernel_rfl) (fun _ _ _ h => h) (Or.inl ⟨by rfl, ?h1m⟩) (by assumption) ?r1m
          case h1m => intro w hSw; (try dsimp only at hSw); go_simp; (try with_reducible rfl)
          try simp only [Act.put, List.setIfInBounds_toArray, List.set_cons_zero, List.set_cons_succ]
          refine wpAnyH_take (i := 2) (oi := ⟨some 41, _, _, _, _, _⟩) (v := ?v2m) rfl (by kernel_rfl) (by kernel_rfl) (by kernel_rfl) (fun _ _ _ h => h) (Or.inl ⟨by rfl, ?h2m⟩) (by assumption) ?r2m
          case h2m => intro w hSw; (try dsimp only at hSw); go_simp; (try with_reducible rfl)
          try simp only [Act.put, List.setIfInBounds_toArray, List.set_cons_zero, List.set_cons_succ]
          refine wpAnyH_take (i := 3) (oi := ⟨some 42, _, _, _, _, _⟩) (v := ?v3m) rfl (by kernel_rfl) (by kernel_rfl) (by kernel_rfl) (fun _ _ _ h => h) (Or.inl ⟨by rfl, ?h3m⟩) (by assumption) ?r3m
          case h3m => intro w hSw; (try dsimp only at hSw); have q4 := (Keeps.cell hSw (p := ⟨p, 4, none⟩) l1 n1).trans e4; go_simp; (try with_reducible rfl)
          try simp only [Act.put, List.setIfInBounds_toArray, List.set_cons_zero, List.set_cons_succ]
          refine wpAnyH_take (i := 4) (oi := ⟨some 43, _, _, _, _, _⟩) (v := ?v4m) rfl (by kernel_rfl) (by kernel_rfl) (by kernel_rfl) (fun _ _ _ h => h) (Or.inl ⟨by rfl, ?h4m⟩) (by assumption) ?r4m
          case h4m => intro w hSw; (try dsimp only at hSw); have q0 := (Keeps.cell hSw (p := ⟨X, 0, none⟩) l2 n2).trans e0; have q1 := (Keeps.cell hSw (p := ⟨X, 1, none⟩) l2 n2).trans e1; have q2 := (Keeps.cell hSw (p := ⟨X, 2, none⟩) l2 n2).trans e2; go_simp; (try with_reducible rfl)
          try simp only [Act.put, List.setIfInBounds_toArray, List.set_cons_zero, List.set_cons_succ]
          refine wpAnyH_take (i := 5) (oi := ⟨some 44, _, _, _, _, _⟩) (v := ?v5m) rfl (by kernel_rfl) (by kernel_rfl) (by kernel_rfl) (fun _ _ _ h => h) (Or.inl ⟨by rfl, ?h5m⟩) (by assumption) ?r5m
          case h5m => intro w hSw; (try dsimp only at hSw); go_simp; (try with_reducible rfl)
          try simp only [Act.put, List.setIfInBounds_toArray, List.set_cons_zero, List.set_cons_succ]
          refine wpAnyH_ready (rs := [6]) (by kernel_rfl) (by simp) ?_
          refine AllReadyH.cons (o := ⟨none, _, _, _, _, _⟩) rfl (fun K hK => ?_) AllReadyH.nil
          go_simp
          refine hK.out _ _ (by (try dsimp only); exact hK5) (fun hHeld => ?_)
          clear hK K
          try simp only [Act.put, List.setIfInBounds_toArray, List.set_cons_zero, List.set_cons_succ]
          refine wpAnyH_done (by kernel_rfl) ?_ _
          go_wp2_with fail
          go_meet
          refine ⟨rfl, (Keeps.of_same hS).trans hK5, ?_⟩
          have : mapD Unit s (i + 1) = (mapD Unit s i).put (kl (k3 s i)) (dI i) := by rw [mapD, if_pos hi]
          rw [this]
          exact r1
    · have hp : prevO s i = -1 := by unfold prevO; rw [if_neg hi]
      have hm : mapD Unit s (i + 1) = mapD Unit s i := by rw [mapD, if_neg hi]
      go_wp2_with fail
      go_meet
      exact ⟨by rw [hp], Keeps.refl _ _, by rw [hm]; exact h.map.mono (by omega)⟩
  case rest =>
    obtain ⟨rfl, hk1, hmap⟩ := hcut
    have hb1 := h.blk.keeps hk1 (fun e => h.ne1 e.symm)
    have ho1 := h.own.keeps hk1 (fun b hb e => h.ne3 (e ▸ hb))
    have c5 := hb1.cell 5
    have cf := hb1.frozen 5
    have hl := hb1.lt
    have hz := hk1.size
    have H1 := hid (show i + 1 ≤ maxLen by unfold maxLen; omega)
    have H2 := hid (show (i + 1) * 8 ≤ 140737488355328 by omega)
    simp only [List.getElem?_toArray, List.getElem?_cons_succ, List.getElem?_cons_zero] at c5
    clear c0 c4
    go_wp2_with ((at_builtin; refine wpList_push _ rfl (.tmp 49) (.tmp 51) 63 rfl 3 i0 (.int .i64 0) 1 8 Try.underlying63 HI rfl (by decide) q i cap ((List.range i).map fun j => i6 (prevO s j)) ?_ ?_ ⟨wc.heap.size, 0, none⟩ 1 1 [i6 (prevO s i)] ?_ rfl ?_ (i6_one _) H1 H2 ?_; exact rfl; exact ho1.own.alloc _; exact rfl; exact cell_one_at (by simp); intro q1 c1 w6 hown6 hk6 hat6 _; have HX := hid (ch_step h hk1 hmap hown6 hk6 hat6); have hx1 := HX.out.1; have hx2 := HX.out.2.1; have hx3 := HX.out.2.2.1; clear hown6 hk6 hat6))
    go_ret
    exact ⟨rfl, q1, c1, HX.out.2.2.2.out⟩
end Go.Proofs.Ytalopgbkjgjppaa
