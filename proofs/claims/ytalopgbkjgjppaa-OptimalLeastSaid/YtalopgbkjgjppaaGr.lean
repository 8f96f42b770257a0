/- The walks of greedy.Parse and of the document's Parse. -/
import Derived.Test.YtalopgbkjgjppaaGp
namespace Go.Proofs.Ytalopgbkjgjppaa
open Go.RowKit Go.Cas

def slLen : Value → Nat
  | .slice _ n _ => n
  | _ => 0

set_option maxHeartbeats 4000000 in
set_option maxRecDepth 100000 in
theorem rparse_any (s : List UInt8) (W C : Int) (w : World) (hs : s.length ≤ 1000000) :
    Calls Try.prog 11 #[.string ⟨s.toArray⟩, i6 W, i6 C] w fun z w' => ∃ q' c', z = .returned (.slice q' (repeatL (parseL s W C)).length c') ∧ Same w w' ∧ RPks w' q' c' (repeatL (parseL s W C)) := by
  obtain ⟨i0, HI⟩ := info_hid Try.infoR
  have hst := left_start s W C
  go_enter Try.func11, Try.ntmps11
  go_wp2_with fail
  go_loopw [7, 8] (fun v ii wx => ∃ (i : Nat) (q1 : Option Addr) (c1 : Nat) (ol : List Pk), ii = i6 i ∧ v = .slice q1 ol.length c1 ∧ RPks wx q1 c1 ol ∧ (∀ b, sblk q1 b → w.heap.size ≤ b) ∧ Same w wx ∧ ol ++ leftP s W C i = parseL s W C ∧ i ≤ s.length ∧ ol.length ≤ i) (fun _ ii _ => s.length - (intOf ii).toNat)
  case atStart => exact ⟨0, none, 0, [], rfl, rfl, Sl.nil _ _ _, by simp [sblk], Keeps.refl _ _, hst, by omega, Nat.le_refl _⟩
  case round =>
    clear hst
    obtain ⟨i, q1, c1, ol, rfl, rfl, hpk, hge, hsm, hleft, hil, hoi⟩ := hrel
    by_cases hlt : i < s.length
    · have hget : s[i]? = some s[i] := by simp [hlt]
      have H1 := hid (show ol.length + 1 ≤ maxLen by unfold maxLen; omega)
      have H2 := hid (show (ol.length + 1) * 32 ≤ 140737488355328 by omega)
      have HL := hid (rlongest_any s i W C wr hlt hs)
      have hlit := left_lit s W C i hlt
      have hmat := left_match s W C i hlt
      have hbd := lastF_bound s i W C
      generalize foundL s i W C = L at *
      by_cases h0 : 0 < L.length
      · rw [hmat h0] at hleft
        obtain ⟨b1, b2, b3, b4, b5⟩ := hbd h0
        generalize lastF L = x at *
        obtain ⟨n, d⟩ := x
        dsimp only at HL hleft b1 b2 b3 b4 b5
        have HF := hid hleft
        have hne : ((n : Int) == 0) = false := by simp; omega
        clear hlit hmat hbd hleft
        go_wp2_with (first
          | (go_at_call 26; refine HL.out.mono ?_; rintro z w4 ⟨rfl, hs4⟩; have hpk4 := (hpk.same hs4).same ((Keeps.refl (fun _ => False) w4).alloc (.cells #[i6 n, i6 d] 56)); have hsm4 := (hsm.trans hs4).alloc (.cells #[i6 n, i6 d] 56))
          | (at_builtin; refine wpList_push _ rfl (.tmp 31) (.tmp 37) 25 rfl 28 i0 (.agg #[.int .i64 0, .int .i64 0, .int .i64 0, .int .u8 0]) 4 32 Try.underlying25 HI zP (by decide) q1 ol.length c1 (cellsP ol) ?_ ?_ ⟨w4.heap.size + 1, 0, none⟩ 1 1 (Pk.cells ⟨2, d, n, 0⟩) ?_ rfl ?_ (pk_one _ _ _ _) H1 H2 ?_; exact rfl; exact hpk4.own.alloc _; exact rfl; exact cells_four_at (by simp); intro q2 c2 w6 hown6 hk6 hat6 _; have HR := hid (Sl.push hsm4 hge hown6 hk6 hat6); have hb6 := Blk.keeps ((Blk.new w4 #[i6 n, i6 d] 56).alloc _) hk6 (fun e => by have := hpk.lt _ e; have := hs4.size; omega); have d0 := hb6.cell 0; simp only [List.getElem?_toArray, List.getElem?_cons_zero] at d0; clear hown6 hk6 hat6))
        obtain ⟨t1, t2, t3, t4, t5⟩ := HR.out
        exact ⟨⟨i + n, q2, c2, ol ++ [⟨2, d, n, 0⟩], by go_num, by simp, (by show Sl _ _ _ _ _ _ _; rw [cellsP_snoc, List.length_append]; exact t1), t2, t3, by rw [List.append_assoc]; exact HF.out, by omega, by simp; omega⟩, by simp [intOf]; omega⟩
      · have hz : L.length = 0 := by omega
        obtain rfl : L = [] := List.eq_nil_of_length_eq_zero hz
        rw [hlit rfl, hget] at hleft
        have HF := hid hleft
        have HLZ : Hid (Calls Try.prog 26 #[.string ⟨s.toArray⟩, i6 i, i6 W, i6 C] wr fun z w' => z = .returned (.agg #[i6 0, i6 0]) ∧ Same wr w') := HL
        clear hlit hmat hbd hleft HL
        go_wp2_with (first
          | (go_at_call 26; refine HLZ.out.mono ?_; rintro z w4 ⟨rfl, hs4⟩; have hpk4 := (hpk.same hs4).same ((Keeps.refl (fun _ => False) w4).alloc (.cells #[i6 0, i6 0] 56)); have hsm4 := (hsm.trans hs4).alloc (.cells #[i6 0, i6 0] 56))
          | (at_builtin; refine wpList_push _ rfl (.tmp 22) (.tmp 27) 25 rfl 28 i0 (.agg #[.int .i64 0, .int .i64 0, .int .i64 0, .int .u8 0]) 4 32 Try.underlying25 HI zP (by decide) q1 ol.length c1 (cellsP ol) ?_ ?_ ⟨w4.heap.size + 1, 0, none⟩ 1 1 (Pk.cells ⟨1, 0, 0, s[i]⟩) ?_ rfl ?_ (pk_one _ _ _ _) H1 H2 ?_; exact rfl; exact hpk4.own.alloc _; exact rfl; exact cells_four_at (by simp); intro q2 c2 w6 hown6 hk6 hat6 _; have HR := hid (Sl.push hsm4 hge hown6 hk6 hat6); clear hown6 hk6 hat6))
        obtain ⟨t1, t2, t3, t4, t5⟩ := HR.out
        exact ⟨⟨i + 1, q2, c2, ol ++ [⟨1, 0, 0, s[i]⟩], by go_num, by simp, (by show Sl _ _ _ _ _ _ _; rw [cellsP_snoc, List.length_append]; exact t1), t2, t3, by rw [List.append_assoc]; exact HF.out, by omega, by simp; omega⟩, by simp [intOf]; omega⟩
    · obtain rfl : i = s.length := by omega
      rw [left_end s W C _ (Nat.le_refl _), List.append_nil] at hleft
      have HRP := hid (rrepeat_any q1 c1 ol wr hpk (by omega))
      replace hleft := hid hleft
      go_wp2_with ((go_at_call 17; refine HRP.out.mono ?_; rintro z w4 ⟨q4, c4, rfl, hs4, hp4, _⟩))
      go_ret
      rw [← hleft.out]
      exact ⟨q4, c4, rfl, hsm.trans hs4, hp4⟩

/-- The parser's state: the finder at the place i, the pieces till now. -/
structure GS (w wx : World) (p : Nat) (s : List UInt8) (W C : Int) (i mb : Nat) (q : Option Addr) (c : Nat) (q1 : Option Addr) (c1 : Nat) (ol : List Pk) : Prop where
  fin : Fin wx p s W C i i mb q c
  pks : Pks wx q1 c1 ol
  ge : ∀ b, sblk q1 b → w.heap.size ≤ b
  fge : ∀ b, finF p mb q b → w.heap.size ≤ b
  dis : ∀ b, sblk q1 b → ¬ finF p mb q b
  sm : Same w wx

theorem GS.same {w wx w' : World} {p : Nat} {s : List UInt8} {W C : Int} {i mb : Nat} {q : Option Addr} {c : Nat} {q1 : Option Addr} {c1 : Nat} {ol : List Pk} (h : GS w wx p s W C i mb q c q1 c1 ol) (k : Same wx w') : GS w w' p s W C i mb q c q1 c1 ol :=
  ⟨h.fin.keeps k (fun _ _ h => h), h.pks.keeps k (fun _ _ h => h), h.ge, h.fge, h.dis, h.sm.trans k⟩

theorem GS.next {w wx w' : World} {p : Nat} {s : List UInt8} {W C : Int} {i mb : Nat} {q : Option Addr} {c : Nat} {q1 : Option Addr} {c1 : Nat} {ol : List Pk} (h : GS w wx p s W C i mb q c q1 c1 ol) (k : NextLeft p s W C i mb q wx w') :
    ∃ q' c', GS w w' p s W C (i + 1) mb q' c' q1 c1 ol := by
  obtain ⟨q', c', hF, hk, hq⟩ := k
  have hz := h.sm.size
  refine ⟨q', c', hF, h.pks.keeps hk h.dis, h.ge, ?_, ?_, h.sm.trans' hk fun b hb e => by have := h.fge b e; omega⟩
  · rintro b (rfl | rfl | e)
    · exact h.fge _ (.inl rfl)
    · exact h.fge _ (.inr (.inl rfl))
    · rcases hq b e with e | e
      · exact h.fge _ (.inr (.inr e))
      · omega
  · intro b e
    have hb := h.pks.lt b e
    rintro (rfl | rfl | f)
    · exact h.dis _ e (.inl rfl)
    · exact h.dis _ e (.inr (.inl rfl))
    · rcases hq b f with f | f
      · exact h.dis _ e (.inr (.inr f))
      · omega

theorem GS.push {w W w6 : World} {X : Obj} {p : Nat} {s : List UInt8} {Wd C : Int} {i mb : Nat} {q : Option Addr} {c : Nat} {q1 q2 : Option Addr} {c1 c2 : Nat} {ol : List Pk} {pk : Pk} (h : GS w W p s Wd C i mb q c q1 c1 ol)
    (hown : w6.ownsRow 0 29 4 (.slice q2 (ol.length + 1) c2) (ol.length + 1) (cellsP ol ++ pk.cells)) (hk : Keeps (sblk q1) (W.alloc X) w6) (hat : ∀ k, sblk q2 k → sblk q1 k ∨ k = (W.alloc X).heap.size) :
    GS w w6 p s Wd C i mb q c q2 c2 (ol ++ [pk]) := by
  obtain ⟨t1, t2, t3, t4, t5⟩ := Sl.push h.sm h.ge hown hk hat
  refine ⟨h.fin.keeps t4 (fun b hb e => h.dis b e hb), ⟨?_⟩, t2, h.fge, fun b e f => t5 b (h.fin.lt b f) (fun e1 => h.dis b e1 f) e, t3⟩
  rw [cellsP_snoc, List.length_append]
  exact hown

set_option maxHeartbeats 4000000 in
set_option maxRecDepth 100000 in
theorem gparse_any (s : List UInt8) (W C : Int) (w : World) (hs : s.length ≤ 1000000) :
    Calls Try.prog 10 #[.string ⟨s.toArray⟩, i6 W, i6 C] w fun z w' => ∃ q' c', z = .returned (.slice q' (repeatL (parseL s W C)).length c') ∧ Same w w' ∧ Pks w' q' c' (repeatL (parseL s W C)) ∧ ∀ b, sblk q' b → w.heap.size ≤ b := by
  obtain ⟨i0, HI⟩ := info_hid Try.infoP
  have hst := left_start s W C
  go_enter Try.func10, Try.ntmps10
  go_wp2_with ((go_at_call 33; refine (chnew_any _ _ _ _).mono ?_; rintro z w1 ⟨p, mb, rfl, hs1, hf1, hp1, hm1⟩))
  have hG : GS w w1 p s W C 0 mb none 0 none 0 [] := ⟨hf1, ⟨World.ownsRow_nil _ _ _ _⟩, by simp [sblk], fun b e => e.elim (fun e => e ▸ hp1) (fun e => e.elim (fun e => e ▸ hm1) (fun e => by simp [sblk] at e)), by simp [sblk], hs1⟩
  clear hf1 hs1 hp1 hm1
  go_loopw [8] (fun v wx => ∃ (i : Nat) (q : Option Addr) (c : Nat) (q1 : Option Addr) (c1 : Nat) (ol : List Pk), v = .slice q1 ol.length c1 ∧ GS w wx p s W C i mb q c q1 c1 ol ∧ ol ++ leftP s W C i = parseL s W C ∧ i ≤ s.length ∧ ol.length ≤ i) (fun v _ => s.length - slLen v)
  case atStart => exact ⟨0, none, 0, none, 0, [], rfl, hG, hst, by omega, Nat.le_refl _⟩
  case round =>
    clear hst hG
    obtain ⟨i, q, c, q1, c1, ol, rfl, hG, hleft, hil, hoi⟩ := hrel
    have HPL := hid (chplace_any p s W C i i mb c q wr hG.fin)
    by_cases hlt : i < s.length
    · have hget : s[i]? = some s[i] := by simp [hlt]
      have H1 := hid (show ol.length + 1 ≤ maxLen by unfold maxLen; omega)
      have H2 := hid (show (ol.length + 1) * 32 ≤ 140737488355328 by omega)
      have HN := hid (chnext_yes p s W C i mb c q wr hG.fin hlt hs)
      have hlit := left_lit s W C i hlt
      have hmat := left_match s W C i hlt
      have hbd := lastF_bound s i W C
      have hfb := foundL_bound s i W C
      have hLb : (foundL s i W C).length ≤ 1000000 := by have := foundGo_length s i W C i 1 0 0; have e : (foundL s i W C).length = (foundGo s i W C i 1 0 0).length := rfl; omega
      have HLG := hid (fun r rc w0 (hS : Sl 70 2 w0 r rc (foundL s i W C).length (cellsF (foundL s i W C))) => longest_any (foundL s i W C) r rc w0 hS (fun p hp => by have := hfb p hp; omega) hLb)
      clear hfb hLb
      generalize foundL s i W C = L at *
      by_cases h0 : 0 < L.length
      · rw [hmat h0] at hleft
        rw [decide_eq_true h0] at HLG
        obtain ⟨b1, b2, b3, b4, b5⟩ := hbd h0
        generalize lastF L = x at *
        obtain ⟨n, d⟩ := x
        dsimp only at HLG hleft b1 b2 b3 b4 b5
        have HF := hid hleft
        clear hlit hmat hbd hleft
        go_wp2_with (first
          | (go_at_call 34; refine HPL.out.mono ?_; rintro z w2 ⟨rfl, rfl⟩)
          | (go_at_call 36; refine HN.out.mono ?_; rintro z w3 ⟨r, rc, rfl, hS3, hNL⟩; obtain ⟨q', c', hG3⟩ := hG.next hNL)
          | (go_at_call 35; refine (HLG.out _ _ _ hS3).mono ?_; rintro z w4 ⟨rfl, hs4⟩; have hG4 := (hG3.same hs4).same ((Keeps.refl (fun _ => False) w4).alloc (.cells #[i6 n, i6 d] 70)))
          | (at_builtin; refine wpList_push _ rfl (.tmp 38) (.tmp 44) 23 rfl 29 i0 (.agg #[.int .i64 0, .int .i64 0, .int .i64 0, .int .u8 0]) 4 32 Try.underlying23 HI zP (by decide) q1 ol.length c1 (cellsP ol) ?_ ?_ ⟨w4.heap.size + 1, 0, none⟩ 1 1 (Pk.cells ⟨2, d, n, 0⟩) ?_ rfl ?_ (pk_one _ _ _ _) H1 H2 ?_; exact rfl; exact hG4.pks.own.alloc _; exact rfl; exact cells_four_at (by simp); intro q2 c2 w6 hown6 hk6 hat6 _; have hG6 := hG4.push (pk := ⟨2, d, n, 0⟩) hown6 hk6 hat6; have hb6 := Blk.keeps ((Blk.new w4 #[i6 n, i6 d] 70).alloc _) hk6 (fun e => by have := hG3.pks.lt _ e; have := hs4.size; omega); have d0 := hb6.cell 0; simp only [List.getElem?_toArray, List.getElem?_cons_zero] at d0; clear hown6 hk6 hat6))
        have HGX := hid hG6
        go_loopw [49] (fun jj wx => ∃ (j : Nat) (q c' : _), j ≤ n - 1 ∧ jj = i6 j ∧ GS w wx p s W C (i + 1 + j) mb q c' q2 c2 (ol ++ [⟨2, d, n, 0⟩])) (fun jj _ => n - 1 - (intOf jj).toNat)
        case atStart => exact ⟨0, _, _, Nat.zero_le _, rfl, hG6⟩
        case round =>
          obtain ⟨j, q9, c9, hj, rfl, hG9⟩ := hrel
          by_cases hjn : j < n - 1
          · have HN9 := hid (chnext_yes p s W C (i + 1 + j) mb c9 q9 wr hG9.fin (by omega) hs)
            go_wp2_with ((go_at_call 36; refine HN9.out.mono ?_; rintro z w9 ⟨r9, rc9, rfl, _, hNL9⟩; obtain ⟨q8, c8, hG8⟩ := hG9.next hNL9))
            go_roundw
            case rel =>
              exact ⟨j + 1, q8, c8, by omega, by go_num, hG8⟩
            case measure => simp [intOf]; omega
          · have hji := hid (show i + n = i + 1 + j by omega)
            have hoj := hid (show ol.length + 1 ≤ i + n ∧ i + n ≤ s.length by omega)
            go_wp2_with fail
            have hG9' : GS w wr p s W C (i + n) mb q9 c9 q2 c2 (ol ++ [⟨2, d, n, 0⟩]) := by rw [hji.out]; exact hG9
            exact ⟨⟨i + n, q9, c9, q2, c2, ol ++ [⟨2, d, n, 0⟩], by simp, hG9', by rw [List.append_assoc]; exact HF.out, hoj.out.2, by simpa using hoj.out.1⟩, by simp [slLen]; omega⟩
      · have hz : L.length = 0 := by omega
        obtain rfl : L = [] := List.eq_nil_of_length_eq_zero hz
        rw [hlit rfl, hget] at hleft
        have HF := hid hleft
        have HLZ := hid (fun r rc w0 hS => (show Calls Try.prog 35 #[.slice r 0 rc] w0 fun z w' => z = .returned (.tuple #[.agg #[i6 0, i6 0], .bool false]) ∧ Same w0 w' from HLG.out r rc w0 hS))
        clear hlit hmat hbd hleft HLG
        go_wp2_with (first
          | (go_at_call 34; refine HPL.out.mono ?_; rintro z w2 ⟨rfl, rfl⟩)
          | (go_at_call 36; refine HN.out.mono ?_; rintro z w3 ⟨r, rc, rfl, hS3, hNL⟩; obtain ⟨q', c', hG3⟩ := hG.next hNL)
          | (go_at_call 35; refine (HLZ.out _ _ _ hS3).mono ?_; rintro z w4 ⟨rfl, hs4⟩; have hG4 := (hG3.same hs4).same ((Keeps.refl (fun _ => False) w4).alloc (.cells #[i6 0, i6 0] 70)))
          | (at_builtin; refine wpList_push _ rfl (.tmp 33) (.tmp 36) 23 rfl 29 i0 (.agg #[.int .i64 0, .int .i64 0, .int .i64 0, .int .u8 0]) 4 32 Try.underlying23 HI zP (by decide) q1 ol.length c1 (cellsP ol) ?_ ?_ ⟨w4.heap.size + 1, 0, none⟩ 1 1 (Pk.cells ⟨1, 0, 0, s[i]⟩) ?_ rfl ?_ (pk_one _ _ _ _) H1 H2 ?_; exact rfl; exact hG4.pks.own.alloc _; exact rfl; exact cells_four_at (by simp); intro q2 c2 w6 hown6 hk6 hat6 _; have hG6 := hG4.push (pk := ⟨1, 0, 0, s[i]⟩) hown6 hk6 hat6; clear hown6 hk6 hat6))
        exact ⟨⟨i + 1, q', c', q2, c2, ol ++ [⟨1, 0, 0, s[i]⟩], by simp, hG6, by rw [List.append_assoc]; exact HF.out, by omega, by simp; omega⟩, by simp [slLen]; omega⟩
    · obtain rfl : i = s.length := by omega
      rw [left_end s W C _ (Nat.le_refl _), List.append_nil] at hleft
      subst hleft
      have HRP := hid (repeat_any q1 c1 (parseL s W C) wr hG.pks (by omega))
      go_wp2_with (first
        | (go_at_call 34; refine HPL.out.mono ?_; rintro z w2 ⟨rfl, rfl⟩)
        | (go_at_call 16; refine HRP.out.mono ?_; rintro z w4 ⟨q4, c4, rfl, hs4, hp4, hg4⟩))
      go_ret
      exact ⟨q4, c4, rfl, hG.sm.trans hs4, hp4, fun b e => Nat.le_trans hG.sm.size (hg4 b e)⟩
end Go.Proofs.Ytalopgbkjgjppaa
