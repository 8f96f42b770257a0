/- Part of a proof: Rrp, Gp, Gr. -/
import Derived.Test.YtalopgbkjgjppaaDoorGSl
import Derived.Test.YtalopgbkjgjppaaDoorGRf
import Derived.Test.YtalopgbkjgjppaaDoorGAl
/- The walk of the document's Repeat. -/
namespace Go.Proofs.YtalopgbkjgjppaaDoor
open Go.RowKit Go.Cas

theorem dist_cases (k d a b c e : Int) :
    (distL k d a b c e = (0, (a, b, c, e), false) ∧ (k == 2) = false ∧ ((k == 3) = false ∧ ¬ k = 3 ∨ k = 3 ∧ (d < 0 ∨ 3 < d))) ∨
    ∃ x0 c0 c1 c2 c3, distL k d a b c e = (x0, (c0, c1, c2, c3), true) ∧
      ((k = 2 ∧ x0 = d ∧ c0 = d ∧ c1 = a ∧ c2 = b ∧ c3 = c) ∨ (k = 3 ∧ 0 ≤ d ∧ d < 4 ∧ x0 = (if d = 0 then a else if d = 1 then b else if d = 2 then c else e) ∧ frontL a b c e d = (c0, c1, c2, c3))) := by
  unfold distL
  by_cases h2 : k = 2
  · subst h2; exact .inr ⟨_, _, _, _, _, by rw [if_pos rfl], .inl ⟨rfl, rfl, rfl, rfl, rfl, rfl⟩⟩
  by_cases h3 : k = 3 ∧ 0 ≤ d ∧ d < 4
  · rw [if_neg h2, if_pos h3]
    exact .inr ⟨_, _, _, _, _, rfl, .inr ⟨h3.1, h3.2.1, h3.2.2, rfl, rfl⟩⟩
  · rw [if_neg h2, if_neg h3]
    refine .inl ⟨rfl, by simpa using h2, ?_⟩
    by_cases hk : k = 3
    · exact .inr ⟨hk, by omega⟩
    · exact .inl ⟨by simpa using hk, hk⟩

/-- The first place of x, looked at from the last place down: j places seen. -/
def atL (a b c d x : Int) : Nat → Int
  | 0 => -1
  | 1 => if d = x then 3 else -1
  | 2 => if c = x then 2 else if d = x then 3 else -1
  | 3 => if b = x then 1 else if c = x then 2 else if d = x then 3 else -1
  | _ => if a = x then 0 else if b = x then 1 else if c = x then 2 else if d = x then 3 else -1

theorem atL_find (a b c d x : Int) : atL a b c d x 4 = if (findL a b c d x).2 then (findL a b c d x).1 else -1 := by
  by_cases h0 : a = x <;> by_cases h1 : b = x <;> by_cases h2 : c = x <;> by_cases h3 : d = x <;> simp [atL, findL, h0, h1, h2, h3]

theorem find_in (a b c d x : Int) : 0 ≤ (findL a b c d x).1 ∧ (findL a b c d x).1 < 4 := by
  unfold findL
  split <;> (try split) <;> (try split) <;> (try split) <;> exact ⟨by decide, by decide⟩

end Go.Proofs.YtalopgbkjgjppaaDoor

/- The walks of greedy.Parse and of the document's Longest and Parse. -/
namespace Go.Proofs.YtalopgbkjgjppaaDoor
open Go.RowKit Go.Cas

theorem foundGo_length (s : List UInt8) (i : Nat) (W C : Int) : ∀ f d best seen, (foundGo s i W C f d best seen).length ≤ f
  | 0, _, _, _ => Nat.le_refl _
  | f + 1, d, best, seen => by
    unfold foundGo
    split
    · split
      · split
        · have := foundGo_length s i W C f (d + 1) (aliN s (i - d) i) (seen + 1); simp; omega
        · have := foundGo_length s i W C f (d + 1) best (seen + 1); omega
      · have := foundGo_length s i W C f (d + 1) best seen; omega
    · simp

/-- The pieces of a text from a place on, before they are told as reps. -/
def parseGo (s : List UInt8) (W C : Int) : Nat → Nat → List Pk
  | 0, _ => []
  | f + 1, i =>
    if i < s.length then
      if 0 < (foundL s i W C).length then ⟨2, (lastF (foundL s i W C)).2, (lastF (foundL s i W C)).1, 0⟩ :: parseGo s W C f (i + (lastF (foundL s i W C)).1)
      else ⟨1, 0, 0, s[i]?.getD 0⟩ :: parseGo s W C f (i + 1)
    else []

def parseL (s : List UInt8) (W C : Int) : List Pk := parseGo s W C s.length 0

theorem parseGo_end (s : List UInt8) (W C : Int) (f i : Nat) (h : s.length ≤ i) : parseGo s W C f i = [] := by
  cases f with
  | zero => rfl
  | succ f => unfold parseGo; rw [if_neg (by omega)]

theorem lastF_mem (l : List (Nat × Nat)) (h : 0 < l.length) : lastF l ∈ l := List.mem_of_getElem? (last_get l h)

theorem lastF_bound (s : List UInt8) (i : Nat) (W C : Int) (h : 0 < (foundL s i W C).length) :
    1 ≤ (lastF (foundL s i W C)).1 ∧ (lastF (foundL s i W C)).1 ≤ 273 ∧ (lastF (foundL s i W C)).1 ≤ s.length - i ∧ 1 ≤ (lastF (foundL s i W C)).2 ∧ (lastF (foundL s i W C)).2 ≤ i := by
  obtain ⟨h1, h2, h3, h4⟩ := foundL_bound s i W C _ (lastF_mem _ h)
  have := aliN_le s (i - (lastF (foundL s i W C)).2) i
  omega

theorem parseGo_fuel (s : List UInt8) (W C : Int) : ∀ f i, s.length - i ≤ f → parseGo s W C f i = parseGo s W C (s.length - i) i
  | 0, i, h => by rw [Nat.le_zero.1 h]
  | f + 1, i, h => by
    by_cases hi : i < s.length
    · obtain ⟨g, hg⟩ : ∃ g, s.length - i = g + 1 := ⟨s.length - i - 1, by omega⟩
      rw [hg, parseGo, parseGo, if_pos hi, if_pos hi]
      by_cases h0 : 0 < (foundL s i W C).length
      · have hb := lastF_bound s i W C h0
        rw [if_pos h0, if_pos h0, parseGo_fuel s W C f _ (by omega), parseGo_fuel s W C g _ (by omega)]
      · rw [if_neg h0, if_neg h0, parseGo_fuel s W C f _ (by omega), parseGo_fuel s W C g _ (by omega)]
    · rw [parseGo_end _ _ _ _ _ (by omega), parseGo_end _ _ _ _ _ (by omega)]
  termination_by f => f

/-- What is left from a place on. -/
def leftP (s : List UInt8) (W C : Int) (i : Nat) : List Pk := parseGo s W C (s.length - i) i

theorem left_start (s : List UInt8) (W C : Int) : leftP s W C 0 = parseL s W C := rfl
theorem left_end (s : List UInt8) (W C : Int) (i : Nat) (h : s.length ≤ i) : leftP s W C i = [] := parseGo_end _ _ _ _ _ h
theorem left_lit (s : List UInt8) (W C : Int) (i : Nat) (h : i < s.length) (h0 : (foundL s i W C).length = 0) : leftP s W C i = ⟨1, 0, 0, s[i]?.getD 0⟩ :: leftP s W C (i + 1) := by
  unfold leftP
  obtain ⟨g, hg⟩ : ∃ g, s.length - i = g + 1 := ⟨s.length - i - 1, by omega⟩
  rw [hg, parseGo, if_pos h, if_neg (by omega), parseGo_fuel s W C g (i + 1) (by omega)]
theorem left_match (s : List UInt8) (W C : Int) (i : Nat) (h : i < s.length) (h0 : 0 < (foundL s i W C).length) :
    leftP s W C i = ⟨2, (lastF (foundL s i W C)).2, (lastF (foundL s i W C)).1, 0⟩ :: leftP s W C (i + (lastF (foundL s i W C)).1) := by
  have hb := lastF_bound s i W C h0
  unfold leftP
  obtain ⟨g, hg⟩ : ∃ g, s.length - i = g + 1 := ⟨s.length - i - 1, by omega⟩
  rw [hg, parseGo, if_pos h, if_pos h0, parseGo_fuel s W C g _ (by omega)]

end Go.Proofs.YtalopgbkjgjppaaDoor

/- The walks of greedy.Parse and of the document's Parse. -/
namespace Go.Proofs.YtalopgbkjgjppaaDoor
open Go.RowKit Go.Cas

def slLen : Value → Nat
  | .slice _ n _ => n
  | _ => 0

/-- The parser's state: the finder at the place i, the pieces till now. -/
structure GS (w wx : World) (p : Nat) (s : List UInt8) (W C : Int) (i mb : Nat) (q : Option Addr) (c : Nat) (q1 : Option Addr) (c1 : Nat) (ol : List Pk) : Prop where
  fin : Fin wx p s W C i i mb q c
  pks : Pks wx q1 c1 ol
  ge : ∀ b, sblk q1 b → w.heap.size ≤ b
  fge : ∀ b, finF p mb q b → w.heap.size ≤ b
  dis : ∀ b, sblk q1 b → ¬ finF p mb q b
  sm : Same w wx

theorem GS.same {w wx w' : World} {p : Nat} {s : List UInt8} {W C : Int} {i mb : Nat} {q : Option Addr} {c : Nat} {q1 : Option Addr} {c1 : Nat} {ol : List Pk} (h : GS w wx p s W C i mb q c q1 c1 ol) (k : Same wx w') : GS w w' p s W C i mb q c q1 c1 ol :=
  ⟨h.fin.keeps k (fun _ _ h => h), h.pks.keeps k (fun _ _ h => h), h.ge, h.fge, h.dis, h.sm.trans k⟩

theorem GS.next {w wx w' : World} {p : Nat} {s : List UInt8} {W C : Int} {i mb : Nat} {q : Option Addr} {c : Nat} {q1 : Option Addr} {c1 : Nat} {ol : List Pk} (h : GS w wx p s W C i mb q c q1 c1 ol) (k : NextLeft p s W C i mb q wx w') :
    ∃ q' c', GS w w' p s W C (i + 1) mb q' c' q1 c1 ol := by
  obtain ⟨q', c', hF, hk, hq⟩ := k
  have hz := h.sm.size
  refine ⟨q', c', hF, h.pks.keeps hk h.dis, h.ge, ?_, ?_, h.sm.trans' hk fun b hb e => by have := h.fge b e; omega⟩
  · rintro b (rfl | rfl | e)
    · exact h.fge _ (.inl rfl)
    · exact h.fge _ (.inr (.inl rfl))
    · rcases hq b e with e | e
      · exact h.fge _ (.inr (.inr e))
      · omega
  · intro b e
    have hb := h.pks.lt b e
    rintro (rfl | rfl | f)
    · exact h.dis _ e (.inl rfl)
    · exact h.dis _ e (.inr (.inl rfl))
    · rcases hq b f with f | f
      · exact h.dis _ e (.inr (.inr f))
      · omega

theorem GS.push {w W w6 : World} {X : Obj} {p : Nat} {s : List UInt8} {Wd C : Int} {i mb : Nat} {q : Option Addr} {c : Nat} {q1 q2 : Option Addr} {c1 c2 : Nat} {ol : List Pk} {pk : Pk} (h : GS w W p s Wd C i mb q c q1 c1 ol)
    (hown : w6.ownsRow 0 34 4 (.slice q2 (ol.length + 1) c2) (ol.length + 1) (cellsP ol ++ pk.cells)) (hk : Keeps (sblk q1) (W.alloc X) w6) (hat : ∀ k, sblk q2 k → sblk q1 k ∨ k = (W.alloc X).heap.size) :
    GS w w6 p s Wd C i mb q c q2 c2 (ol ++ [pk]) := by
  obtain ⟨t1, t2, t3, t4, t5⟩ := Sl.push h.sm h.ge hown hk hat
  refine ⟨h.fin.keeps t4 (fun b hb e => h.dis b e hb), ⟨?_⟩, t2, h.fge, fun b e f => t5 b (h.fin.lt b f) (fun e1 => h.dis b e1 f) e, t3⟩
  rw [cellsP_snoc, List.length_append]
  exact hown

set_option maxHeartbeats 4000000 in
set_option maxRecDepth 100000 in
theorem gparse_any (s : List UInt8) (W C : Int) (w : World) (hs : s.length ≤ 1000000) :
    Calls Tryd.prog 6 #[.string ⟨s.toArray⟩, i6 W, i6 C] w fun z w' => ∃ q' c', z = .returned (.slice q' (repeatL (parseL s W C)).length c') ∧ Same w w' ∧ Pks w' q' c' (repeatL (parseL s W C)) ∧ ∀ b, sblk q' b → w.heap.size ≤ b := by
  obtain ⟨i0, HI⟩ := info_hid Tryd.infoP
  have hst := left_start s W C
  go_enter Tryd.func6, Tryd.ntmps6
  go_wp2_with ((go_at_call 12; refine (chnew_any _ _ _ _).mono ?_; rintro z w1 ⟨p, mb, rfl, hs1, hf1, hp1, hm1⟩))
  have hG : GS w w1 p s W C 0 mb none 0 none 0 [] := ⟨hf1, ⟨World.ownsRow_nil _ _ _ _⟩, by simp [sblk], fun b e => e.elim (fun e => e ▸ hp1) (fun e => e.elim (fun e => e ▸ hm1) (fun e => by simp [sblk] at e)), by simp [sblk], hs1⟩
  clear hf1 hs1 hp1 hm1
  go_loopw [8] (fun v wx => ∃ (i : Nat) (q : Option Addr) (c : Nat) (q1 : Option Addr) (c1 : Nat) (ol : List Pk), v = .slice q1 ol.length c1 ∧ GS w wx p s W C i mb q c q1 c1 ol ∧ ol ++ leftP s W C i = parseL s W C ∧ i ≤ s.length ∧ ol.length ≤ i) (fun v _ => s.length - slLen v)
  case atStart => exact ⟨0, none, 0, none, 0, [], rfl, hG, hst, by omega, Nat.le_refl _⟩
  case round =>
    clear hst hG
    obtain ⟨i, q, c, q1, c1, ol, rfl, hG, hleft, hil, hoi⟩ := hrel
    have HPL := hid (chplace_any p s W C i i mb c q wr hG.fin)
    by_cases hlt : i < s.length
    · have hget : s[i]? = some s[i] := by simp [hlt]
      have H1 := hid (show ol.length + 1 ≤ maxLen by unfold maxLen; omega)
      have H2 := hid (show (ol.length + 1) * 32 ≤ 140737488355328 by omega)
      have HN := hid (chnext_yes p s W C i mb c q wr hG.fin hlt hs)
      have hlit := left_lit s W C i hlt
      have hmat := left_match s W C i hlt
      have hbd := lastF_bound s i W C
      have hfb := foundL_bound s i W C
      have hLb : (foundL s i W C).length ≤ 1000000 := by have := foundGo_length s i W C i 1 0 0; have e : (foundL s i W C).length = (foundGo s i W C i 1 0 0).length := rfl; omega
      have HLG := hid (fun r rc w0 (hS : Sl 39 2 w0 r rc (foundL s i W C).length (cellsF (foundL s i W C))) => longest_any (foundL s i W C) r rc w0 hS (fun p hp => by have := hfb p hp; omega) hLb)
      clear hfb hLb
      generalize foundL s i W C = L at *
      by_cases h0 : 0 < L.length
      · rw [hmat h0] at hleft
        rw [decide_eq_true h0] at HLG
        obtain ⟨b1, b2, b3, b4, b5⟩ := hbd h0
        generalize lastF L = x at *
        obtain ⟨n, d⟩ := x
        dsimp only at HLG hleft b1 b2 b3 b4 b5
        have HF := hid hleft
        clear hlit hmat hbd hleft
        go_wp2_with (first
          | (go_at_call 13; refine HPL.out.mono ?_; rintro z w2 ⟨rfl, rfl⟩)
          | (go_at_call 15; refine HN.out.mono ?_; rintro z w3 ⟨r, rc, rfl, hS3, hNL⟩; obtain ⟨q', c', hG3⟩ := hG.next hNL)
          | (go_at_call 14; refine (HLG.out _ _ _ hS3).mono ?_; rintro z w4 ⟨rfl, hs4⟩; have hG4 := (hG3.same hs4).same ((Keeps.refl (fun _ => False) w4).alloc (.cells #[i6 n, i6 d] 39)))
          | (at_builtin; refine wpList_push _ rfl (.tmp 38) (.tmp 44) 23 rfl 34 i0 (.agg #[.int .i64 0, .int .i64 0, .int .i64 0, .int .u8 0]) 4 32 Tryd.underlying23 HI zP (by decide) q1 ol.length c1 (cellsP ol) ?_ ?_ ⟨w4.heap.size + 1, 0, none⟩ 1 1 (Pk.cells ⟨2, d, n, 0⟩) ?_ rfl ?_ (pk_one _ _ _ _) H1 H2 ?_; exact rfl; exact hG4.pks.own.alloc _; exact rfl; exact cells_four_at (by simp); intro q2 c2 w6 hown6 hk6 hat6 _; have hG6 := hG4.push (pk := ⟨2, d, n, 0⟩) hown6 hk6 hat6; have hb6 := Blk.keeps ((Blk.new w4 #[i6 n, i6 d] 39).alloc _) hk6 (fun e => by have := hG3.pks.lt _ e; have := hs4.size; omega); have d0 := hb6.cell 0; simp only [List.getElem?_toArray, List.getElem?_cons_zero] at d0; clear hown6 hk6 hat6))
        have HGX := hid hG6
        go_loopw [49] (fun jj wx => ∃ (j : Nat) (q c' : _), j ≤ n - 1 ∧ jj = i6 j ∧ GS w wx p s W C (i + 1 + j) mb q c' q2 c2 (ol ++ [⟨2, d, n, 0⟩])) (fun jj _ => n - 1 - (intOf jj).toNat)
        case atStart => exact ⟨0, _, _, Nat.zero_le _, rfl, hG6⟩
        case round =>
          obtain ⟨j, q9, c9, hj, rfl, hG9⟩ := hrel
          by_cases hjn : j < n - 1
          · have HN9 := hid (chnext_yes p s W C (i + 1 + j) mb c9 q9 wr hG9.fin (by omega) hs)
            go_wp2_with ((go_at_call 15; refine HN9.out.mono ?_; rintro z w9 ⟨r9, rc9, rfl, _, hNL9⟩; obtain ⟨q8, c8, hG8⟩ := hG9.next hNL9))
            go_roundw
            case rel =>
              exact ⟨j + 1, q8, c8, by omega, by go_num, hG8⟩
            case measure => simp [intOf]; omega
          · have hji := hid (show i + n = i + 1 + j by omega)
            have hoj := hid (show ol.length + 1 ≤ i + n ∧ i + n ≤ s.length by omega)
            go_wp2_with fail
            have hG9' : GS w wr p s W C (i + n) mb q9 c9 q2 c2 (ol ++ [⟨2, d, n, 0⟩]) := by rw [hji.out]; exact hG9
            exact ⟨⟨i + n, q9, c9, q2, c2, ol ++ [⟨2, d, n, 0⟩], by simp, hG9', by rw [List.append_assoc]; exact HF.out, hoj.out.2, by simpa using hoj.out.1⟩, by simp [slLen]; omega⟩
      · have hz : L.length = 0 := by omega
        obtain rfl : L = [] := List.eq_nil_of_length_eq_zero hz
        rw [hlit rfl, hget] at hleft
        have HF := hid hleft
        have HLZ := hid (fun r rc w0 hS => (show Calls Tryd.prog 14 #[.slice r 0 rc] w0 fun z w' => z = .returned (.tuple #[.agg #[i6 0, i6 0], .bool false]) ∧ Same w0 w' from HLG.out r rc w0 hS))
        clear hlit hmat hbd hleft HLG
        go_wp2_with (first
          | (go_at_call 13; refine HPL.out.mono ?_; rintro z w2 ⟨rfl, rfl⟩)
          | (go_at_call 15; refine HN.out.mono ?_; rintro z w3 ⟨r, rc, rfl, hS3, hNL⟩; obtain ⟨q', c', hG3⟩ := hG.next hNL)
          | (go_at_call 14; refine (HLZ.out _ _ _ hS3).mono ?_; rintro z w4 ⟨rfl, hs4⟩; have hG4 := (hG3.same hs4).same ((Keeps.refl (fun _ => False) w4).alloc (.cells #[i6 0, i6 0] 39)))
          | (at_builtin; refine wpList_push _ rfl (.tmp 33) (.tmp 36) 23 rfl 34 i0 (.agg #[.int .i64 0, .int .i64 0, .int .i64 0, .int .u8 0]) 4 32 Tryd.underlying23 HI zP (by decide) q1 ol.length c1 (cellsP ol) ?_ ?_ ⟨w4.heap.size + 1, 0, none⟩ 1 1 (Pk.cells ⟨1, 0, 0, s[i]⟩) ?_ rfl ?_ (pk_one _ _ _ _) H1 H2 ?_; exact rfl; exact hG4.pks.own.alloc _; exact rfl; exact cells_four_at (by simp); intro q2 c2 w6 hown6 hk6 hat6 _; have hG6 := hG4.push (pk := ⟨1, 0, 0, s[i]⟩) hown6 hk6 hat6; clear hown6 hk6 hat6))
        exact ⟨⟨i + 1, q', c', q2, c2, ol ++ [⟨1, 0, 0, s[i]⟩], by simp, hG6, by rw [List.append_assoc]; exact HF.out, by omega, by simp; omega⟩, by simp [slLen]; omega⟩
    · obtain rfl : i = s.length := by omega
      rw [left_end s W C _ (Nat.le_refl _), List.append_nil] at hleft
      subst hleft
      have HRP := hid (repeat_any q1 c1 (parseL s W C) wr hG.pks (by omega))
      go_wp2_with (first
        | (go_at_call 13; refine HPL.out.mono ?_; rintro z w2 ⟨rfl, rfl⟩)
        | (go_at_call 16; refine HRP.out.mono ?_; rintro z w4 ⟨q4, c4, rfl, hs4, hp4, hg4⟩))
      go_ret
      exact ⟨q4, c4, rfl, hG.sm.trans hs4, hp4, fun b e => Nat.le_trans hG.sm.size (hg4 b e)⟩
end Go.Proofs.YtalopgbkjgjppaaDoor
