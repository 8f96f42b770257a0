/- optimal.back: the pieces, from the end. -/
import Derived.Test.YtalopgbkjgjppaaRv
import Derived.Test.YtalopgbkjgjppaaGr
namespace Go.Proofs.Ytalopgbkjgjppaa
open Go.RowKit Go.Cas

def backGo (O : List Opt) : Nat → Int → List Pk
  | 0, _ => []
  | f + 1, a => if 0 < a then (oat O a.toNat).2 :: backGo O f (a - max (oat O a.toNat).2.l 1) else []
def obackL (O : List Opt) : List Pk := (backGo O O.length ((O.length : Int) - 1)).reverse

theorem backGo_stop (O : List Opt) (f : Nat) (a : Int) (h : ¬ 0 < a) : backGo O f a = [] := by
  cases f with
  | zero => rfl
  | succ f => unfold backGo; rw [if_neg h]

set_option maxHeartbeats 4000000 in
set_option maxRecDepth 100000 in
theorem rev_nil (w : World) :
    Calls Try.prog 63 #[.slice none 0 0] w fun z w' => z = .returned (.tuple #[]) ∧ w' = w := by
  go_enter Try.func63, Try.ntmps63
  go_wp2_with fail
  go_loopw [2, 3] (fun s2 s3 wx => s2 = i6 0 ∧ s3 = i6 (-1) ∧ wx = w) (fun _ _ _ => 0)
  case atStart => exact ⟨rfl, rfl, rfl⟩
  case round =>
    obtain ⟨rfl, rfl, rfl⟩ := hrel
    go_wp2_with fail
    go_end0
    exact ⟨rfl, rfl⟩

def BackLeft (w w' : World) (z : Ending) (L : List Pk) : Prop := ∃ q c, z = .returned (.slice q L.length c) ∧ Pks w' q c L ∧ Same w w' ∧ ∀ b, sblk q b → w.heap.size ≤ b

set_option maxHeartbeats 4000000 in
set_option maxRecDepth 100000 in
theorem oback_any (g cap : Nat) (O : List Opt) (w : World) (hO : ORow w g O) (h1 : 1 ≤ O.length) (h2 : O.length ≤ 1000001) (hl : ∀ j, 0 ≤ (oat O j).2.l ∧ (oat O j).2.l ≤ 1000000) :
    Calls Try.prog 54 #[.slice (some ⟨g, 0, none⟩) O.length cap] w fun z w' => BackLeft w w' z (obackL O) := by
  obtain ⟨i0, HI⟩ := info_hid Try.infoP
  have hwr : IntKind.i64.wrap ((O.length : Int) - 1) = (O.length : Int) - 1 := IntWalk.i64_in _ (by omega)
  unfold obackL
  obtain ⟨R, hR⟩ : ∃ R, backGo O O.length ((O.length : Int) - 1) = R := ⟨_, rfl⟩
  rw [hR]
  have HL := hid hl
  clear hl
  go_enter Try.func54, Try.ntmps54
  go_wp2_with fail
  go_loopw [3, 4] (fun s3 s4 wx => ∃ (a : Int) (f : Nat) (q1 : Option Addr) (c1 : Nat) (ol : List Pk), s3 = .slice q1 ol.length c1 ∧ s4 = i6 a ∧ ol ++ backGo O f a = R ∧ a < O.length ∧ a ≤ f ∧ -2000000 ≤ a ∧ (0 ≤ a → (ol.length : Int) + a ≤ O.length) ∧ ol.length ≤ O.length ∧ Pks wx q1 c1 ol ∧ (∀ b, sblk q1 b → w.heap.size ≤ b) ∧ Same w wx) (fun _ s4 _ => (intOf s4).toNat)
  case atStart =>
    exact ⟨(O.length : Int) - 1, O.length, none, 0, [], rfl, rfl, hR, by omega, by omega, by omega, fun _ => by simp; omega, by simp, ⟨World.ownsRow_nil _ _ _ _⟩, by simp [sblk], Keeps.refl _ _⟩
  case round =>
    obtain ⟨a, f, q1, c1, ol, rfl, rfl, hr, haO, haf, ha2, hol, hol2, hP, hge, hsm⟩ := hrel
    by_cases ha : 0 < a
    · obtain ⟨an, rfl⟩ : ∃ an : Nat, a = an := ⟨a.toNat, by omega⟩
      obtain ⟨f', rfl⟩ : ∃ f', f = f' + 1 := ⟨f - 1, by omega⟩
      unfold backGo at hr
      rw [if_pos ha, Int.toNat_natCast] at hr
      have haO' : an < O.length := by omega
      have hget : O[an]? = some (oat O an) := by unfold oat; simp [haO']
      have hO2 : ORow wr g O := hO.keeps hsm (fun h => h)
      obtain ⟨x0, x1, x2, x3, x4⟩ := hO2.at an _ hget
      have hL := HL.out an
      obtain ⟨p, hp⟩ : ∃ p, (oat O an).2 = p := ⟨_, rfl⟩
      rw [hp] at x1 x2 x3 x4 hL hr
      obtain ⟨pk, pd, pl, py⟩ := p
      dsimp only at x1 x2 x3 x4 hL hr
      have H1 := hid (show ol.length + 1 ≤ maxLen by unfold maxLen; omega)
      have H2 := hid (show (ol.length + 1) * 32 ≤ 140737488355328 by omega)
      have d1 : decide ((0 : Int) < (an : Int)) = true := by simpa using ha
      have d2 : decide ((an : Int) > 0) = true := by simpa using ha
      have hmx : IntKind.i64.wrap ((an : Int) - max pl 1) = (an : Int) - max pl 1 := IntWalk.i64_in _ (by omega)
      have HRR := hid hr
      have hnb : ¬ sblk q1 wr.heap.size := fun e => by have := hP.lt _ e; omega
      clear hp hget hr x0
      go_wp2_with ((at_builtin; refine wpList_push _ rfl (.tmp 16) (.tmp 18) 23 rfl 29 i0 (.agg #[.int .i64 0, .int .i64 0, .int .i64 0, .int .u8 0]) 4 32 Try.underlying23 HI zP (by decide) q1 ol.length c1 (cellsP ol) ?_ ?_ ⟨wr.heap.size + 1, 0, none⟩ 1 1 (Pk.cells ⟨pk, pd, pl, py⟩) ?_ rfl ?_ (pk_one _ _ _ _) H1 H2 ?_; exact rfl; exact (hP.own.alloc _).alloc _; exact rfl; exact cells_four_at (by simp); intro q2 c2 w6 hown6 hk6 hat6 _; have HR := hid (Sl.push (hsm.alloc _) hge hown6 hk6 hat6); have hb6 := Blk.keeps ((Blk.new wr #[i6 pk, i6 pd, i6 pl, b8 py] 29).alloc _) hk6 hnb; have d0 := hb6.cell 2; simp only [List.getElem?_toArray, List.getElem?_cons_succ, List.getElem?_cons_zero] at d0; clear hown6 hk6 hat6))
      obtain ⟨t1, t2, t3, t4, t5⟩ := HR.out
      have hmx2 : 1 ≤ max pl 1 ∧ max pl 1 ≤ 1000000 := by omega
      exact ⟨⟨(an : Int) - max pl 1, f', q2, c2, ol ++ [⟨pk, pd, pl, py⟩], by simp, rfl, by rw [List.append_assoc]; exact HRR.out, by omega, by omega, by omega, fun h => by simp; omega, by simp; omega, ⟨by rw [List.length_append, cellsP_snoc]; exact t1.own⟩, t2, t3⟩, by show ((an : Int) - max pl 1).toNat < (an : Int).toNat; omega⟩
    · rw [backGo_stop O f a ha, List.append_nil] at hr
      subst hr
      have d1 : decide ((0 : Int) < a) = false := by simpa using ha
      have d2 : decide (a > 0) = false := by simpa using ha
      clear ha hol
      have hown := hP.own.2
      rcases hown with ⟨e1, e2⟩ | ⟨g', c', cur, e1, _⟩
      · simp only [Value.slice.injEq] at e1
        obtain ⟨rfl, e3, rfl⟩ := e1
        obtain rfl : ol = [] := List.eq_nil_of_length_eq_zero e3
        go_wp2_with (go_at_call 63; refine (rev_nil _).mono ?_; rintro z w4 ⟨rfl, rfl⟩)
        go_ret
        exact ⟨none, 0, rfl, hP, hsm, hge⟩
      · simp only [Value.slice.injEq] at e1
        obtain ⟨rfl, _, rfl⟩ := e1
        have hRv := hid (rev_any g' c1 ol wr hP (by omega))
        go_wp2_with (go_at_call 63; refine hRv.out.mono ?_; rintro z w4 ⟨rfl, hP4, hK4⟩)
        go_ret
        refine ⟨some ⟨g', 0, none⟩, c1, by rw [List.length_reverse]; rfl, hP4, ?_, hge⟩
        exact hsm.trans' hK4 fun b hb e => by have := hge g' (by simp [sblk]); omega
end Go.Proofs.Ytalopgbkjgjppaa
