/- Part of a proof: Ap, Rp, Sl, To. -/
import Derived.Test.YtalopgbkjgjppaaGreatDoorGWin
import Derived.Deep.DeepCutAuto
import Derived.Test.YtalopgbkjgjppaaGreatDoorGPk
import Derived.Deep.DeepMust
import Derived.Deep.Slices
/- The walk of packet.Apply. -/
namespace Go.Proofs.YtalopgbkjgjppaaGreatDoor
open Go.RowKit Go.Cas
end Go.Proofs.YtalopgbkjgjppaaGreatDoor

/- The walk of packet.Repeat. -/
namespace Go.Proofs.YtalopgbkjgjppaaGreatDoor
open Go.RowKit Go.Cas

/-- Packets told by the last distances, from here on. -/
def repeatGo : List Pk → Int × Int × Int × Int → Int × Int × Int × Int → List Pk
  | [], _, _ => []
  | p :: ps, was, now =>
    if (distL p.k p.d was.1 was.2.1 was.2.2.1 was.2.2.2).2.2 then
      if (findL now.1 now.2.1 now.2.2.1 now.2.2.2 (distL p.k p.d was.1 was.2.1 was.2.2.1 was.2.2.2).1).2 then
        ⟨3, (findL now.1 now.2.1 now.2.2.1 now.2.2.2 (distL p.k p.d was.1 was.2.1 was.2.2.1 was.2.2.2).1).1, p.l, 0⟩ ::
          repeatGo ps (distL p.k p.d was.1 was.2.1 was.2.2.1 was.2.2.2).2.1 (distL 3 (findL now.1 now.2.1 now.2.2.1 now.2.2.2 (distL p.k p.d was.1 was.2.1 was.2.2.1 was.2.2.2).1).1 now.1 now.2.1 now.2.2.1 now.2.2.2).2.1
      else
        ⟨2, (distL p.k p.d was.1 was.2.1 was.2.2.1 was.2.2.2).1, p.l, 0⟩ ::
          repeatGo ps (distL p.k p.d was.1 was.2.1 was.2.2.1 was.2.2.2).2.1 (distL 2 (distL p.k p.d was.1 was.2.1 was.2.2.1 was.2.2.2).1 now.1 now.2.1 now.2.2.1 now.2.2.2).2.1
    else p :: repeatGo ps (distL p.k p.d was.1 was.2.1 was.2.2.1 was.2.2.2).2.1 now

def repeatL (l : List Pk) : List Pk := repeatGo l (1, 1, 1, 1) (1, 1, 1, 1)

theorem Tryz.infoP : (Tryz.prog.info? 39).map (fun i => (i.zero, i.size, i.bytes)) = some (some (.agg #[.int .i64 0, .int .i64 0, .int .i64 0, .int .u8 0]), 4, 32) := by kernel_rfl

theorem zP : (Value.agg #[.int .i64 0, .int .i64 0, .int .i64 0, .int .u8 0]).cells.size = 4 := by kernel_rfl

theorem cells_four_new (w : World) (x0 x1 x2 x3 : Value) (t : TypeId) : ∀ j u, [x0, x1, x2, x3][j]? = some u → (w.alloc (.cells #[x0, x1, x2, x3] t)).cell? ((⟨w.heap.size, 0, none⟩ : Addr).add j) = some u := by
  intro j u hj
  rw [show (⟨w.heap.size, 0, none⟩ : Addr).add j = ⟨w.heap.size, j, none⟩ from by unfold Addr.add; split <;> simp_all, World.cell?_alloc_new]
  match j, hj with
  | 0, hj => exact hj
  | 1, hj => exact hj
  | 2, hj => exact hj
  | 3, hj => exact hj

theorem cells_four_at {w : World} {n : Nat} {x0 x1 x2 x3 : Value} {t : TypeId} (h : n = w.heap.size) : ∀ j u, [x0, x1, x2, x3][j]? = some u → (w.alloc (.cells #[x0, x1, x2, x3] t)).cell? ((⟨n, 0, none⟩ : Addr).add j) = some u := by
  subst h; exact cells_four_new _ _ _ _ _ _

theorem pk_one (k d l : Int) (y : Int) : ∀ u ∈ [i6 k, i6 d, i6 l, Value.int .u8 y], u.oneCell' = true := by
  intro u hu; simp at hu; rcases hu with rfl | rfl | rfl | rfl <;> rfl

theorem cellsP_snoc (l : List Pk) (p : Pk) : cellsP (l ++ [p]) = cellsP l ++ p.cells := by simp [cellsP]

/-- What a push onto the list does beside the two blocks of last distances. -/
theorem rp_step {w W w6 : World} {B c2 : Nat} {q1 q2 : Option Addr} {ol : List Pk} {p : Pk} {was now : Array Value} {news : List Value} (hnews : news = p.cells)
    (hsm : Same w W) (hW : Blk W B was 69) (hN : Blk W (B + 1) now 69) (hn1 : ¬ sblk q1 B) (hn2 : ¬ sblk q1 (B + 1)) (hge : ∀ b, sblk q1 b → w.heap.size ≤ b)
    (hown : w6.ownsRow 0 39 4 (.slice q2 (ol.length + 1) c2) (ol.length + 1) (cellsP ol ++ news)) (X : Obj) (hk : Keeps (sblk q1) (W.alloc X) w6) (hat : ∀ k, sblk q2 k → sblk q1 k ∨ k = (W.alloc X).heap.size) :
    Pks w6 q2 c2 (ol ++ [p]) ∧ Blk w6 B was 69 ∧ Blk w6 (B + 1) now 69 ∧ ¬ sblk q2 B ∧ ¬ sblk q2 (B + 1) ∧ (∀ b, sblk q2 b → w.heap.size ≤ b) ∧ Same w w6 := by
  have l1 := hW.lt
  have l2 := hN.lt
  have l3 := hsm.size
  have l4 : (W.alloc X).heap.size = W.heap.size + 1 := by simp
  refine ⟨⟨?_⟩, (hW.alloc _).keeps hk hn1, (hN.alloc _).keeps hk hn2, ?_, ?_, ?_, ?_⟩
  · rw [cellsP_snoc, List.length_append, ← hnews]; exact hown
  · intro e; rcases hat _ e with e | e
    · exact hn1 e
    · omega
  · intro e; rcases hat _ e with e | e
    · exact hn2 e
    · omega
  · intro b e; rcases hat _ e with e | e
    · exact hge b e
    · omega
  · exact (hsm.alloc X).trans' (S' := sblk q1) hk fun b hb hs => by have := hge b hs; omega

theorem rp_step2 {w W w6 : World} {B c2 : Nat} {q1 q2 : Option Addr} {ol : List Pk} {p : Pk} {was now : Array Value} {O X : Obj}
    (hsm : Same w W) (hW : Blk W B was 69) (hN : Blk W (B + 1) now 69) (hn1 : ¬ sblk q1 B) (hn2 : ¬ sblk q1 (B + 1)) (hge : ∀ b, sblk q1 b → w.heap.size ≤ b)
    (hown : w6.ownsRow 0 39 4 (.slice q2 (ol.length + 1) c2) (ol.length + 1) (cellsP ol ++ p.cells)) (hk : Keeps (sblk q1) ((W.alloc O).alloc X) w6) (hat : ∀ k, sblk q2 k → sblk q1 k ∨ k = ((W.alloc O).alloc X).heap.size) :
    Pks w6 q2 c2 (ol ++ [p]) ∧ Blk w6 B was 69 ∧ Blk w6 (B + 1) now 69 ∧ ¬ sblk q2 B ∧ ¬ sblk q2 (B + 1) ∧ (∀ b, sblk q2 b → w.heap.size ≤ b) ∧ Same w w6 :=
  rp_step rfl (hsm.alloc O) (hW.alloc O) (hN.alloc O) hn1 hn2 hge hown X hk hat

set_option maxHeartbeats 4000000 in
set_option maxRecDepth 100000 in
theorem repeat_any (q : Option Addr) (cap : Nat) (l : List Pk) (w : World) (hl : Pks w q cap l) (hn : l.length ≤ 100000000) :
    Calls Tryz.prog 8 #[.slice q l.length cap] w fun z w' =>
      ∃ q' c', z = .returned (.slice q' (repeatL l).length c') ∧ Same w w' ∧ Pks w' q' c' (repeatL l) ∧ ∀ b, sblk q' b → w.heap.size ≤ b := by
  obtain ⟨i0, HI⟩ := info_hid Tryz.infoP
  go_enter Tryz.func8, Tryz.ntmps8
  go_wp2_with fail
  refine (first_any _).mono ?_
  rintro z w1 ⟨rfl, hs1⟩
  go_wp2_with fail
  refine (first_any _).mono ?_
  rintro z w2 ⟨rfl, hs2⟩
  go_wp2_with fail
  have hR : Blk ((w2.alloc (.cells (rc4 (1, 1, 1, 1)) 69)).alloc (.cells (rc4 (1, 1, 1, 1)) 69)) w2.heap.size (rc4 (1, 1, 1, 1)) 69 := (Blk.new _ _ _).alloc _
  have hN : Blk ((w2.alloc (.cells (rc4 (1, 1, 1, 1)) 69)).alloc (.cells (rc4 (1, 1, 1, 1)) 69)) (w2.heap.size + 1) (rc4 (1, 1, 1, 1)) 69 := Blk.new_at (by simp)
  have hS : Same w ((w2.alloc (.cells (rc4 (1, 1, 1, 1)) 69)).alloc (.cells (rc4 (1, 1, 1, 1)) 69)) := ((hs1.trans hs2).alloc _).alloc _
  have hBP : w.heap.size ≤ w2.heap.size := (hs1.trans hs2).size
  generalize w2.heap.size = B at *
  clear hs1 hs2
  go_loopw [5, 17] (fun v i wr => ∃ k : Nat, k ≤ l.length ∧ i = i6 k ∧ ∃ q1 c1 ol was now, v = .slice q1 k c1 ∧ ol.length = k ∧ Pks wr q1 c1 ol ∧ Blk wr B (rc4 was) 69 ∧ Blk wr (B + 1) (rc4 now) 69 ∧
      ¬ sblk q1 B ∧ ¬ sblk q1 (B + 1) ∧ (∀ b, sblk q1 b → w.heap.size ≤ b) ∧ Same w wr ∧ ol ++ repeatGo (l.drop k) was now = repeatL l) (fun _ i _ => l.length - (intOf i).toNat)
  case atStart => exact ⟨0, Nat.zero_le _, rfl, none, 0, [], (1, 1, 1, 1), (1, 1, 1, 1), rfl, rfl, ⟨World.ownsRow_nil _ _ _ _⟩, hR, hN, by simp [sblk], by simp [sblk], by simp [sblk], hS, rfl⟩
  case round =>
    obtain ⟨k, hk, rfl, q1, c1, ol, was, now, rfl, rfl, hpk, hw, hnw, hn1, hn2, hge, hsm, hfin⟩ := hrel
    clear hR hN hS
    by_cases hlt : ol.length < l.length
    · obtain ⟨g, rfl⟩ := hl.ex (by omega)
      have H1 := hid (show ol.length + 1 ≤ maxLen by unfold maxLen; omega)
      have H2 := hid (show (ol.length + 1) * 32 ≤ 140737488355328 by omega)
      have hget : l[ol.length]? = some l[ol.length] := by simp [hlt]
      have hdrop : l.drop ol.length = l[ol.length] :: l.drop (ol.length + 1) := List.drop_eq_getElem_cons hlt
      rw [hdrop] at hfin
      generalize l[ol.length] = pkt at *
      obtain ⟨pk_, pd, pl, py⟩ := pkt
      obtain ⟨a0, a1, a2, a3⟩ := was
      obtain ⟨b0, b1, b2, b3⟩ := now
      have hat := (hl.keeps hsm (fun _ _ h => h)).at ol.length _ hget
      dsimp only at hat hw hnw
      have hgl : g < wr.heap.size := (hl.keeps hsm (fun _ _ h => h)).lt g rfl
      have hfin' := hfin
      simp only [repeatGo] at hfin'
      have HF := hid hfin'
      clear hfin hfin' hdrop hget
      have HD := hid (distance_any pk_ pd pl py.toNat a0 a1 a2 a3)
      generalize distL pk_ pd a0 a1 a2 a3 = x at HD HF
      obtain ⟨x0, ⟨c0, c1_, c2_, c3_⟩, ok⟩ := x
      dsimp only at HD HF
      have hwB := hw.lt
      have hnB := hnw.lt
      have hw' := hw.four
      go_wp2_with fail
      clear hw'
      refine (HD.out _).mono ?_
      rintro z w3 ⟨rfl, hs3⟩
      have hX3 : Blk w3 wr.heap.size #[i6 pk_, i6 pd, i6 pl, b8 py] 39 := (Blk.new _ _ _).keeps hs3 (fun h => h)
      have hB3 : Blk w3 B #[i6 a0, i6 a1, i6 a2, i6 a3] 69 := (hw.alloc _).keeps hs3 (fun h => h)
      have hN3 : Blk w3 (B + 1) #[i6 b0, i6 b1, i6 b2, i6 b3] 69 := (hnw.alloc _).keeps hs3 (fun h => h)
      have hpk3 : Pks w3 q1 c1 ol := hpk.keeps ((Keeps.refl _ _).alloc _) (fun _ _ h => h) |>.keeps hs3 (fun _ _ h => h)
      have hsm3 : Same w w3 := (hsm.alloc _).trans hs3
      have fB := hB3.four
      have lB := hB3.lt
      have lX := hX3.lt
      have lN := hN3.lt
      have lnX : wr.heap.size ≠ B ∧ wr.heap.size ≠ B + 1 := by omega
      have hpkl := hpk.lt
      clear hat hs3 hw hnw
      cases ok with
      | false =>
        have fX := hX3.four
        have HW := hid (Blk.set4 hB3 (i6 c0) (i6 c1_) (i6 c2_) (i6 c3_))
        have HK := hid (Keeps.set4 w3 B (i6 c0) (i6 c1_) (i6 c2_) (i6 c3_))
        have HS0 := hid (hsm3.trans' HK.out (fun b hb e => by omega))
        have HN0 := hid (hN3.keeps HK.out (by omega))
        go_wp2_with ((at_builtin; refine wpList_push _ rfl (.tmp 52) (.tmp 54) 28 rfl 39 i0 (.agg #[.int .i64 0, .int .i64 0, .int .i64 0, .int .u8 0]) 4 32 Tryz.underlying28 HI zP (by decide) q1 ol.length c1 (cellsP ol) ?_ ?_ ⟨w3.heap.size + 1, 0, none⟩ 1 1 [i6 pk_, i6 pd, i6 pl, b8 py] ?_ rfl ?_ (pk_one _ _ _ _) H1 H2 ?_; exact rfl; exact ((hpk3.keeps HK.out (fun b hb e => hn1 (e ▸ hb))).own.alloc _).alloc _; exact rfl; exact cells_four_at (by simp); intro q2 c2 w6 hown6 hk6 hat6 _; have HR := hid (rp_step2 (p := ⟨pk_, pd, pl, py⟩) HS0.out HW.out HN0.out hn1 hn2 hge hown6 hk6 hat6); clear hown6 hk6 hat6))
        obtain ⟨r1, r2, r3, r4, r5, r6, r7⟩ := HR.out
        exact ⟨⟨ol.length + 1, by omega, by go_num, q2, c2, ol ++ [⟨pk_, pd, pl, py⟩], (c0, c1_, c2_, c3_), (b0, b1, b2, b3), rfl, by simp, r1, r2, r3, r4, r5, r6, r7, by rw [List.append_assoc]; exact HF.out⟩, by simp [intOf]; omega⟩
      | true =>
        have fN := hN3.four
        have HFi := hid (find_any b0 b1 b2 b3 x0)
        generalize findL b0 b1 b2 b3 x0 = f at HFi HF
        obtain ⟨f0, found⟩ := f
        dsimp only at HFi HF
        have HW := hid (Blk.set4 hB3 (i6 c0) (i6 c1_) (i6 c2_) (i6 c3_))
        have HK := hid (Keeps.set4 w3 B (i6 c0) (i6 c1_) (i6 c2_) (i6 c3_))
        have HS0 := hid (hsm3.trans' HK.out (fun b hb e => by omega))
        have HN0 := hid (hN3.keeps HK.out (by omega))
        have HX0 := hid (hX3.keeps HK.out (by omega))
        have HP0 := hid (hpk3.keeps HK.out (fun b hb e => hn1 (e ▸ hb)))
        have hlt3 : ∀ b, sblk q1 b → b < wr.heap.size := hpkl
        go_wp2_with fail
        refine (HFi.out _).mono ?_
        rintro z w4 ⟨rfl, hs4⟩
        have hX4 := (HX0.out.alloc (.cells #[i6 c0, i6 c1_, i6 c2_, i6 c3_] 69)).keeps hs4 (fun h => h)
        have hB4 := (HW.out.alloc (.cells #[i6 c0, i6 c1_, i6 c2_, i6 c3_] 69)).keeps hs4 (fun h => h)
        have hN4 := (HN0.out.alloc (.cells #[i6 c0, i6 c1_, i6 c2_, i6 c3_] 69)).keeps hs4 (fun h => h)
        have hpk4 := (HP0.out.keeps ((Keeps.refl (fun _ => False) _).alloc (.cells #[i6 c0, i6 c1_, i6 c2_, i6 c3_] 69)) (fun _ _ h => h)).keeps hs4 (fun _ _ h => h)
        have hsm4 : Same w w4 := (HS0.out.alloc (.cells #[i6 c0, i6 c1_, i6 c2_, i6 c3_] 69)).trans hs4
        have fX4 := hX4.four
        have fN4 := hN4.four
        clear fN fB hs4 HW HK HS0 HN0 HX0 HP0 hX3 hB3 hN3 hpk3 hsm3 lB lX lN
        cases found with
        | false =>
          have HD2 := hid (distance_any 2 x0 pl 0 b0 b1 b2 b3)
          generalize distL 2 x0 b0 b1 b2 b3 = y at HD2 HF
          obtain ⟨y0, ⟨d0, d1, d2, d3⟩, yok⟩ := y
          dsimp only at HD2 HF
          have HX5 := hid (hX4.set4 (i6 2) (i6 x0) (i6 pl) (Value.int .u8 0))
          have HK5 := hid (Keeps.set4 w4 wr.heap.size (i6 2) (i6 x0) (i6 pl) (Value.int .u8 0))
          go_wp2_with fail
          refine (HD2.out _).mono ?_
          rintro z w5 ⟨rfl, hs5⟩
          have hX5 := HX5.out.keeps hs5 (fun h => h)
          have hB5 := (hB4.keeps HK5.out (by omega)).keeps hs5 (fun h => h)
          have hN5 := (hN4.keeps HK5.out (by omega)).keeps hs5 (fun h => h)
          have hpk5 := (hpk4.keeps HK5.out (fun b hb e => by have := hlt3 b hb; omega)).keeps hs5 (fun _ _ h => h)
          have hsm5 : Same w w5 := (hsm4.trans' HK5.out (fun b hb e => by omega)).trans hs5
          have fX5 := hX5.four
          have fN5 := hN5.four
          have HW6 := hid (hN5.set4 (i6 d0) (i6 d1) (i6 d2) (i6 d3))
          have HK6 := hid (Keeps.set4 w5 (B + 1) (i6 d0) (i6 d1) (i6 d2) (i6 d3))
          have HS6 := hid (hsm5.trans' HK6.out (fun b hb e => by omega))
          have HB6 := hid (hB5.keeps HK6.out (by omega))
          have HP6 := hid (hpk5.keeps HK6.out (fun b hb e => hn2 (e ▸ hb)))
          clear hs5 HK5 HX5 hX4 hB4 hN4 fX4 fN4 hpk4 hsm4
          go_wp2_with ((at_builtin; refine wpList_push _ rfl (.tmp 52) (.tmp 54) 28 rfl 39 i0 (.agg #[.int .i64 0, .int .i64 0, .int .i64 0, .int .u8 0]) 4 32 Tryz.underlying28 HI zP (by decide) q1 ol.length c1 (cellsP ol) ?_ ?_ ⟨w5.heap.size, 0, none⟩ 1 1 [i6 2, i6 x0, i6 pl, Value.int .u8 0] ?_ rfl ?_ (pk_one _ _ _ _) H1 H2 ?_; exact rfl; exact HP6.out.own.alloc _; exact rfl; exact cells_four_at (by simp); intro q2 c2 w6 hown6 hk6 hat6 _; have HR := hid (rp_step (p := ⟨2, x0, pl, 0⟩) rfl HS6.out HB6.out HW6.out hn1 hn2 hge hown6 _ hk6 hat6); clear hown6 hk6 hat6))
          obtain ⟨r1, r2, r3, r4, r5, r6, r7⟩ := HR.out
          exact ⟨⟨ol.length + 1, by omega, by go_num, q2, c2, ol ++ [⟨2, x0, pl, 0⟩], (c0, c1_, c2_, c3_), (d0, d1, d2, d3), rfl, by simp, r1, r2, r3, r4, r5, r6, r7, by rw [List.append_assoc]; exact HF.out⟩, by simp [intOf]; omega⟩
        | true =>
          go_upto_region 13 with fail
          rw [set4_twice]
          have HD2 := hid (distance_any 3 f0 pl 0 b0 b1 b2 b3)
          generalize distL 3 f0 b0 b1 b2 b3 = y at HD2 HF
          obtain ⟨y0, ⟨d0, d1, d2, d3⟩, yok⟩ := y
          dsimp only at HD2 HF
          have HX5 := hid (hX4.set4 (i6 3) (i6 f0) (i6 pl) (Value.int .u8 0))
          have HK5 := hid (Keeps.set4 w4 wr.heap.size (i6 3) (i6 f0) (i6 pl) (Value.int .u8 0))
          go_wp2_with fail
          refine (HD2.out _).mono ?_
          rintro z w5 ⟨rfl, hs5⟩
          have hX5 := HX5.out.keeps hs5 (fun h => h)
          have hB5 := (hB4.keeps HK5.out (by omega)).keeps hs5 (fun h => h)
          have hN5 := (hN4.keeps HK5.out (by omega)).keeps hs5 (fun h => h)
          have hpk5 := (hpk4.keeps HK5.out (fun b hb e => by have := hlt3 b hb; omega)).keeps hs5 (fun _ _ h => h)
          have hsm5 : Same w w5 := (hsm4.trans' HK5.out (fun b hb e => by omega)).trans hs5
          have fX5 := hX5.four
          have fN5 := hN5.four
          have HW6 := hid (hN5.set4 (i6 d0) (i6 d1) (i6 d2) (i6 d3))
          have HK6 := hid (Keeps.set4 w5 (B + 1) (i6 d0) (i6 d1) (i6 d2) (i6 d3))
          have HS6 := hid (hsm5.trans' HK6.out (fun b hb e => by omega))
          have HB6 := hid (hB5.keeps HK6.out (by omega))
          have HP6 := hid (hpk5.keeps HK6.out (fun b hb e => hn2 (e ▸ hb)))
          clear hs5 HK5 HX5 hX4 hB4 hN4 fX4 fN4 hpk4 hsm4
          go_wp2_with ((at_builtin; refine wpList_push _ rfl (.tmp 52) (.tmp 54) 28 rfl 39 i0 (.agg #[.int .i64 0, .int .i64 0, .int .i64 0, .int .u8 0]) 4 32 Tryz.underlying28 HI zP (by decide) q1 ol.length c1 (cellsP ol) ?_ ?_ ⟨w5.heap.size, 0, none⟩ 1 1 [i6 3, i6 f0, i6 pl, Value.int .u8 0] ?_ rfl ?_ (pk_one _ _ _ _) H1 H2 ?_; exact rfl; exact HP6.out.own.alloc _; exact rfl; exact cells_four_at (by simp); intro q2 c2 w6 hown6 hk6 hat6 _; have HR := hid (rp_step (p := ⟨3, f0, pl, 0⟩) rfl HS6.out HB6.out HW6.out hn1 hn2 hge hown6 _ hk6 hat6); clear hown6 hk6 hat6))
          obtain ⟨r1, r2, r3, r4, r5, r6, r7⟩ := HR.out
          exact ⟨⟨ol.length + 1, by omega, by go_num, q2, c2, ol ++ [⟨3, f0, pl, 0⟩], (c0, c1_, c2_, c3_), (d0, d1, d2, d3), rfl, by simp, r1, r2, r3, r4, r5, r6, r7, by rw [List.append_assoc]; exact HF.out⟩, by simp [intOf]; omega⟩
    · have HU := hfin
      rw [show ol.length = l.length by omega] at HU
      simp only [List.drop_length, repeatGo, List.append_nil] at HU
      replace HU := hid HU
      clear hfin hw hnw
      have hle : ¬ (ol.length < l.length) := hlt
      go_wp2_with fail
      go_ret
      rw [← HU.out]
      exact ⟨q1, c1, rfl, hsm, hpk, hge⟩
end Go.Proofs.YtalopgbkjgjppaaGreatDoor

/- A slice that owns its row, of whatever element; the step of an append. -/
namespace Go.Proofs.YtalopgbkjgjppaaGreatDoor
open Go.RowKit Go.Cas
abbrev Bys (w : World) (q : Option Addr) (cap : Nat) (bs : List UInt8) : Prop := Sl 5 1 w q cap bs.length (bs.map b8)

theorem bys_at {w : World} {g cap : Nat} {bs : List UInt8} (h : Bys w (some ⟨g, 0, none⟩) cap bs) (k : Nat) (hk : k < bs.length) : w.cell? ⟨g, k, none⟩ = some (b8 bs[k]) := by
  rw [h.cell k (by omega), b8_get bs k hk]

end Go.Proofs.YtalopgbkjgjppaaGreatDoor

/- The walk of told: the program's packets, and the document's. -/
namespace Go.Proofs.YtalopgbkjgjppaaGreatDoor
open Go.RowKit Go.Cas

/-- Packets that lie in memory that came in. -/
def OutPks (w : World) (q : Option Addr) (l : List Pk) : Prop :=
  ∀ k p, l[k]? = some p → ∃ a, q = some a ∧ a.block < w.heap.size ∧ w.cell? (a.add (k * 4)) = some (i6 p.k) ∧ w.cell? (a.add (k * 4 + 1)) = some (i6 p.d) ∧ w.cell? (a.add (k * 4 + 2)) = some (i6 p.l) ∧ w.cell? (a.add (k * 4 + 3)) = some (b8 p.y)

end Go.Proofs.YtalopgbkjgjppaaGreatDoor
