/- The walk of the statement PacketCopies. -/
import Derived.Test.YtalopgbkjgjppaaSp06
import Derived.Test.YtalopgbkjgjppaaTold
import Derived.Deep.Slices
namespace Go.Proofs.Ytalopgbkjgjppaa
open Go.RowKit Go.Cas

theorem wrap_i64_in (n : Int) (h1 : -9223372036854775808 ≤ n) (h2 : n ≤ 9223372036854775807) : IntKind.i64.wrap n = n := (IntWalk.i64_left n).trans (IntWalk.wrap64_in n ⟨h1, h2⟩)

theorem copy_str (cs : List UInt8) (d : Nat) (h1 : 1 ≤ d) (h2 : d ≤ cs.length) :
    (⟨cs.toArray⟩ : ByteArray) ++ (⟨cs.toArray⟩ : ByteArray).extract (cs.length - d) (cs.length - d + 1) = ⟨(cs ++ [cs[cs.length - d]?.getD 0]).toArray⟩ := by
  have h3 : cs.length - d < cs.length := by omega
  apply ByteArray.ext
  simp only [ByteArray.data_append, ByteArray.data_extract, List.extract_toArray, List.append_toArray]
  congr 2
  rw [List.getElem?_eq_getElem h3, Option.getD_some]
  rw [List.extract_eq_take_drop, show cs.length - d + 1 - (cs.length - d) = 1 from by omega, List.drop_eq_getElem_cons h3]
  rfl

theorem pc_step {w W w6 : World} {c2 : Nat} {q1 q2 : Option Addr} {ol : List Pk} {p : Pk} {X : Obj}
    (hsm : Same w W) (hge : ∀ b, sblk q1 b → w.heap.size ≤ b)
    (hown : w6.ownsRow 0 29 4 (.slice q2 (ol.length + 1) c2) (ol.length + 1) (cellsP ol ++ p.cells)) (hk : Keeps (sblk q1) (W.alloc X) w6) (hat : ∀ k, sblk q2 k → sblk q1 k ∨ k = (W.alloc X).heap.size) :
    Pks w6 q2 c2 (ol ++ [p]) ∧ (∀ b, sblk q2 b → w.heap.size ≤ b) ∧ Same w w6 := by
  have l3 := hsm.size
  have l4 : (W.alloc X).heap.size = W.heap.size + 1 := by simp
  refine ⟨⟨?_⟩, ?_, ?_⟩
  · rw [cellsP_snoc, List.length_append]; exact hown
  · intro b e; rcases hat _ e with e | e
    · exact hge b e
    · omega
  · exact (hsm.alloc X).trans' (S' := sblk q1) hk fun b hb hs => by have := hge b hs; omega

set_option maxHeartbeats 4000000 in
set_option maxRecDepth 100000 in
theorem pcopies_any (bs0 : List UInt8) (q : Option Addr) (n cap : Nat) (w : World) (hb : bs0.length ≤ maxLen) (hn : n ≤ maxLen)
    (hl : ∀ i, i < n → ∃ (a : Addr) (x y : Int), q = some a ∧ a.block < w.heap.size ∧ 0 ≤ x ∧ x < 65536 ∧ 0 ≤ y ∧ y < 65536 ∧ w.cell? (a.add (i * 2)) = some (.int .u16 x) ∧ w.cell? (a.add (i * 2 + 1)) = some (.int .u16 y)) :
    Calls Try.prog 6 #[.string ⟨bs0.toArray⟩, .slice q n cap] w fun e w' => e = .returned (.bool true) ∧ Same w w' := by
  obtain ⟨i0, HI⟩ := info_hid Try.infoP
  replace hl := hid hl
  go_enter Try.func6, Try.ntmps6
  go_wp2_with fail
  refine (speaks06_any _).mono ?_
  rintro z w1 ⟨rfl, hs1⟩
  go_upto_region 3 with fail
  go_cut [0] (fun v wx => ∃ t : List UInt8, v = .string ⟨t.toArray⟩ ∧ t.length ≤ 40 ∧ Same w wx)
  case first =>
    go_wp2_with fail
    all_goals go_meet
    · exact ⟨bs0.take 40, by congr 1; apply ByteArray.ext; simp, by simp; omega, hs1⟩
    · exact ⟨bs0, by congr 1; apply ByteArray.ext; simp, by omega, hs1⟩
  case rest =>
    clear hs1
    obtain ⟨t, rfl, ht, hs1⟩ := hcut
    go_wp2
    go_loopw [5, 6] (fun v i wr => ∃ k : Nat, k ≤ t.length ∧ i = i6 k ∧ ∃ q1 c1 ps, v = .slice q1 k c1 ∧ ps.length = k ∧ Pks wr q1 c1 ps ∧ (∀ b, sblk q1 b → w.heap.size ≤ b) ∧ Same w wr ∧ Told ps (t.take k)) (fun _ i _ => t.length - (intOf i).toNat)
    case atStart => exact ⟨0, Nat.zero_le _, rfl, none, 0, [], rfl, rfl, ⟨World.ownsRow_nil _ _ _ _⟩, by simp [sblk], hs1, Told.nil⟩
    case round =>
      obtain ⟨k, hk, rfl, q1, c1, ps, rfl, rfl, hpk, hge, hsm, htd⟩ := hrel
      by_cases hlt : ps.length < t.length
      · have hget : t[ps.length]? = some t[ps.length] := by simp [hlt]
        have htk : t.take (ps.length + 1) = t.take ps.length ++ [t[ps.length]] := by rw [List.take_add_one, hget]; rfl
        have H1 := hid (show ps.length + 1 ≤ maxLen by unfold maxLen; omega)
        have H2 := hid (show (ps.length + 1) * 32 ≤ 140737488355328 by omega)
        have HT := hid (htd.lit t[ps.length])
        rw [← htk] at HT
        clear htk htd hget
        go_wp2_with ((at_builtin; refine wpList_push _ rfl (.tmp 28) (.tmp 33) 23 rfl 29 i0 (.agg #[.int .i64 0, .int .i64 0, .int .i64 0, .int .u8 0]) 4 32 Try.underlying23 HI zP (by decide) q1 ps.length c1 (cellsP ps) ?_ ?_ ⟨wr.heap.size, 0, none⟩ 1 1 (Pk.cells ⟨1, 0, 0, t[ps.length]⟩) ?_ rfl ?_ (pk_one _ _ _ _) H1 H2 ?_; exact rfl; exact hpk.own.alloc _; exact rfl; exact cells_four_at (by simp); intro q2 c2 w6 hown6 hk6 hat6 _; have HR := hid (pc_step hsm hge hown6 hk6 hat6); clear hown6 hk6 hat6))
        obtain ⟨r1, r2, r3⟩ := HR.out
        exact ⟨⟨ps.length + 1, by omega, by go_num, q2, c2, ps ++ [⟨1, 0, 0, t[ps.length]⟩], rfl, by simp, r1, r2, r3, HT.out⟩, by simp [intOf]; omega⟩
      · have hle : ps.length = t.length := by omega
        rw [hle, List.take_length] at htd
        go_wp2
        go_loopw [0, 5, 7, 8, 9, 10] (fun s v i _ _ _ wx => ∃ k : Nat, k ≤ n ∧ k ≤ 8 ∧ i = i6 k ∧ ∃ bs q2 c2 ps2, s = .string ⟨bs.toArray⟩ ∧ v = .slice q2 ps2.length c2 ∧ ps2.length ≤ 40 + k ∧ bs.length ≤ 40 + 273 * k ∧ Pks wx q2 c2 ps2 ∧ (∀ b, sblk q2 b → w.heap.size ≤ b) ∧ Same w wx ∧ Told ps2 bs) (fun _ _ i _ _ _ _ => 8 - (intOf i).toNat)
        case atStart => exact ⟨0, Nat.zero_le _, by omega, rfl, t, q1, c1, ps, rfl, rfl, by omega, by omega, hpk, hge, hsm, htd⟩
        case round =>
          clear hpk hge hsm htd hle hlt hk hs1 ht
          obtain ⟨k, hkn, hk8, rfl, bs, q2, c2, ps2, rfl, rfl, hps, hbs, hpk, hge, hsm, htd⟩ := hrel
          by_cases hgo : k < n ∧ k < 8 ∧ 0 < bs.length
          · obtain ⟨h1, h2, h3⟩ := hgo
            obtain ⟨a, x, y, rfl, hab, hx0, hx1, hy0, hy1, hcx, hcy⟩ := hl.out k h1
            rw [← hsm.cell (p := a.add (k * 2)) (by unfold Addr.add; split <;> exact hab) (fun h => h)] at hcx
            rw [← hsm.cell (p := a.add (k * 2 + 1)) (by unfold Addr.add; split <;> exact hab) (fun h => h)] at hcy
            have hmod : IntKind.i64.wrap (x.tmod bs.length) = x.tmod bs.length ∧ 0 ≤ x.tmod bs.length ∧ x.tmod bs.length < bs.length := by
              rw [Int.tmod_eq_emod_of_nonneg hx0]
              have := Int.emod_nonneg x (show (bs.length : Int) ≠ 0 by omega)
              have := Int.emod_lt_of_pos x (show (0 : Int) < bs.length by omega)
              exact ⟨wrap_i64_in _ (by omega) (by omega), by omega, by omega⟩
            obtain ⟨m0, m1, m2⟩ := hmod
            have n5 : bs ≠ [] := by intro e; simp [e] at h3
            have hcy' : wr.cell? ⟨(a.add (k * 2)).block, (a.add (k * 2)).off + 1, none⟩ = some (.int .u16 y) := by rw [← Go.Deep.add_add] at hcy; exact hcy
            have hxw : IntKind.i64.wrap x = x := wrap_i64_in _ (by omega) (by omega)
            have hyw : IntKind.i64.wrap y = y := wrap_i64_in _ (by omega) (by omega)
            have hmy : IntKind.i64.wrap (y.tmod 272) = y.tmod 272 ∧ 0 ≤ y.tmod 272 ∧ y.tmod 272 < 272 := by
              rw [Int.tmod_eq_emod_of_nonneg hy0]
              exact ⟨wrap_i64_in _ (by omega) (by omega), by omega, by omega⟩
            obtain ⟨p0, p1, p2⟩ := hmy
            have p3 : IntKind.i64.wrap (2 + y.tmod 272) = 2 + y.tmod 272 := wrap_i64_in _ (by omega) (by omega)
            have m3 : IntKind.i64.wrap (1 + x.tmod bs.length) = 1 + x.tmod bs.length := wrap_i64_in _ (by omega) (by omega)
            go_upto_region 12 with fail
            go_quiet (fail)
            obtain ⟨d, ed, hd1, hd2⟩ : ∃ d : Nat, wrap64 (1 + x % (bs.length : Int)) = d ∧ 1 ≤ d ∧ d ≤ bs.length := by
              rw [Int.tmod_eq_emod_of_nonneg hx0] at m1 m2
              exact ⟨(1 + x % (bs.length : Int)).toNat, (IntWalk.wrap64_in _ ⟨by omega, by omega⟩).trans (by omega), by omega, by omega⟩
            obtain ⟨m, em, hm1, hm2⟩ : ∃ m : Nat, 2 + y % 272 = m ∧ 2 ≤ m ∧ m ≤ 273 := by
              rw [Int.tmod_eq_emod_of_nonneg hy0] at p1 p2
              exact ⟨(2 + y % 272).toNat, by omega, by omega, by omega⟩
            rw [ed, em]
            clear ed em m0 m1 m2 m3 p0 p1 p2 p3 hxw hyw hcx hcy hcy' hx0 hx1 hy0 hy1 hab n5
            have H1 := hid (show ps2.length + 1 ≤ maxLen by unfold maxLen; omega)
            have H2 := hid (show (ps2.length + 1) * 32 ≤ 140737488355328 by omega)
            have HT := hid (htd.copy d m hd1 hd2 (by omega) hm1 hm2)
            have hcl := hid (copyL_length bs d)
            have hpk' : Pks (wr.drewN nq) q2 c2 ps2 := hpk.keeps ((Keeps.refl (fun _ => False) wr).drewN nq) (fun _ _ h => h)
            have hsm' : Same w (wr.drewN nq) := hsm.drewN nq
            clear htd
            go_wp2_with ((at_builtin; refine wpList_push _ rfl (.tmp 68) (.tmp 72) 23 rfl 29 i0 (.agg #[.int .i64 0, .int .i64 0, .int .i64 0, .int .u8 0]) 4 32 Try.underlying23 HI zP (by decide) q2 ps2.length c2 (cellsP ps2) ?_ ?_ ⟨wr.heap.size, 0, none⟩ 1 1 (Pk.cells ⟨2, d, m, 0⟩) ?_ rfl ?_ (pk_one _ _ _ _) H1 H2 ?_; exact rfl; exact hpk'.own.alloc _; exact rfl; exact cells_four_at (by simp); intro q3 c3 w6 hown6 hk6 hat6 _; have HR := hid (pc_step hsm' hge hown6 hk6 hat6); clear hown6 hk6 hat6))
            clear hpk hpk' hsm hsm' H1 H2 hl hge
            have W6 := hid (rfl : w6 = w6)
            go_loopw [0, 10] (fun sv i wx => ∃ j : Nat, j ≤ m ∧ i = i6 j ∧ sv = .string ⟨(copyL bs d j).toArray⟩ ∧ wx = w6) (fun _ i _ => m - (intOf i).toNat)
            case atStart => exact ⟨0, Nat.zero_le _, rfl, rfl, rfl⟩
            case round =>
              obtain ⟨j, hj, rfl, rfl, rfl⟩ := hrel
              by_cases hjm : j < m
              · have hlen := hcl.out j
                have HS := hid (show copyL bs d (j + 1) = copyL bs d j ++ [(copyL bs d j)[(copyL bs d j).length - d]?.getD 0] from rfl)
                generalize copyL bs d j = cs at *
                have k0 : (cs.length : Int) - d = ((cs.length - d : Nat) : Int) := by omega
                go_wp2_with fail
                refine ⟨⟨j + 1, by omega, rfl, ?_, trivial⟩, by simp [intOf]; omega⟩
                rw [← hlen, copy_str cs d hd1 (by omega), HS.out]
              · obtain rfl : j = m := by omega
                have hlen := hcl.out j
                go_wp2_with fail
                obtain ⟨r1, r2, r3⟩ := HR.out
                exact ⟨⟨k + 1, by omega, by omega, rfl, copyL bs d j, q3, c3, _, rfl, by simp, by simp; omega, by omega, r1, r2, r3, HT.out⟩, by simp [intOf]; omega⟩
          · clear hl
            have A1 : ∀ w1 : World, Pks w1 q2 c2 ps2 → Calls Try.prog 14 #[.slice q2 ps2.length c2, i6 1048576] w1 fun z w' => z = .returned (.tuple #[.string ⟨bs.toArray⟩, i6 0]) ∧ Same w1 w' := by
              intro w1 h1
              have := apply_any q2 c2 ps2 1048576 w1 h1 (by omega) (by omega)
              rw [htd.yes 1048576 (by omega)] at this
              exact this
            rcases Nat.eq_zero_or_pos bs.length with hz | hz
            · have hz' : bs = [] := List.eq_nil_of_length_eq_zero hz
              subst hz'
              have A2 : ∀ w1 : World, Pks w1 q2 c2 ps2 → Calls Try.prog 14 #[.slice q2 ps2.length c2, i6 (-1)] w1 fun z w' => z = .returned (.tuple #[.string ⟨#[]⟩, i6 0]) ∧ Same w1 w' := by
                intro w1 h1
                have := apply_any q2 c2 ps2 (-1) w1 h1 (by omega) (by omega)
                rw [show applyL ps2 (-1) = applyL ps2 0 from rfl, htd.yes 0 (by simp)] at this
                exact this
              replace A1 := hid (A1 wr hpk)
              have A2' := hid (fun w1 (h : Same wr w1) => A2 w1 (hpk.keeps h fun _ _ h => h))
              clear A2 htd hpk
              go_wp2_with ((go_at_call 14; first | (refine (A2'.out _ hs3).mono ?_; rintro z w4 ⟨rfl, hs4⟩) | (refine A1.out.mono ?_; rintro z w3 ⟨rfl, hs3⟩)))
              all_goals first
                | (exfalso; simp_all; done)
                | (exfalso; simp_all; omega)
                | (go_ret; exact ⟨rfl, (hsm.trans hs3).trans hs4⟩)
            · have A2 : ∀ w1 : World, Pks w1 q2 c2 ps2 → Calls Try.prog 14 #[.slice q2 ps2.length c2, i6 ((bs.length : Int) - 1)] w1 fun z w' => z = .returned (.tuple #[.string ⟨#[]⟩, i6 11]) ∧ Same w1 w' := by
                intro w1 h1
                have := apply_any q2 c2 ps2 ((bs.length : Int) - 1) w1 h1 (by omega) (by omega)
                rw [htd.no _ (by omega) hz] at this
                exact this
              replace A1 := hid (A1 wr hpk)
              have A2' := hid (fun w1 (h : Same wr w1) => A2 w1 (hpk.keeps h fun _ _ h => h))
              clear A2 htd hpk
              go_wp2_with ((go_at_call 14; first | (refine (A2'.out _ hs3).mono ?_; rintro z w4 ⟨rfl, hs4⟩) | (refine A1.out.mono ?_; rintro z w3 ⟨rfl, hs3⟩)))
              all_goals first
                | (exfalso; simp_all; done)
                | (exfalso; simp_all; omega)
                | (go_ret; exact ⟨rfl, (hsm.trans hs3).trans hs4⟩)
end Go.Proofs.Ytalopgbkjgjppaa
