/- More walks of the statements of layer 6. (Printed by gen_w6q.py.) -/
import Derived.Test.YtnkpajoakmilaaaW6P
namespace Go.Proofs.Ytnkpajoakmilaaa
open Go.WideShapes Go.Deep Go.RowKit
set_option maxRecDepth 20000
theorem rdL_len (s : ByteArray) : ∀ (f cy ct p : Nat), (rdL s f cy ct p).1.length ≤ f
  | 0, _, _, _ => Nat.le_refl _
  | f + 1, cy, ct, p => by
    rw [rdL]
    split
    · split
      · exact Nat.succ_le_succ (rdL_len s f _ _ _)
      · exact Nat.zero_le _
    · exact Nat.zero_le _
theorem rdS_len (s : ByteArray) (cy ct : Nat) : (rdS s cy ct).length ≤ s.size := by
  unfold rdS; split
  · exact rdL_len s _ _ _ _
  · exact Nat.zero_le _
set_option maxHeartbeats 2000000 in
theorem coilReads_law (cy ct : Int) (s : ByteArray) (w : World) (hcy : (Lit.int .u64 cy).wf = true) (hct : (Lit.int .u64 ct).wf = true) (hs : s.size ≤ maxLen) :
    Calls Try.prog 4 #[.int .u64 cy, .int .u64 ct, .string s] w fun e w' => e = .returned (.bool true) ∧ Below w.heap.size w w' := by
  obtain ⟨cy, rfl, h1⟩ := u64_of hcy
  obtain ⟨ct, rfl, h2⟩ := u64_of hct
  unfold U64 at h1 h2
  unfold maxLen at hs
  have HN := Lib.hid (And.intro h1 h2)
  clear h1 h2 hcy hct
  have hB0 := Below.refl w.heap.size w
  by_cases hl : s.size ≤ 1000
  · have hd : decide ((1000 : Int) < s.size) = false := by simp; omega
    have hd' : ¬ (1000 : Int) < s.size := by omega
    have hrd := fun x => cread_any s cy ct HN.out.1 HN.out.2 (by omega) x
    have hrr := fun x => rread_any s cy ct HN.out.1 HN.out.2 (by omega) x
    have hll := rdS_len s cy ct
    generalize rdS s cy ct = l at hrd hrr hll
    generalize (rdL s s.size cy ct 0).2 = er at hrd hrr
    have hll2 : l.length ≤ 1000000 := by omega
    clear hll
    go_enter Try.func4, Try.ntmps4
    go_wp2_with fail
    refine (awake6 _).mono ?_
    rintro x0 w1 ⟨rfl, hk⟩
    have hB1 := hB0.trans (hk.mono hB0.size)
    clear hk hB0
    go_wp2_with fail
    refine (hrd _).mono ?_
    rintro x w2 ⟨ao, cap, rfl, hown, hk⟩
    have hs1 := slArgN_own hown
    have hB2 := hB1.trans (hk.mono hB1.size)
    clear hk hown hrd hB1
    go_wp2_with fail
    refine (hrr _).mono ?_
    rintro x w3 ⟨ao2, cap2, rfl, hown, hk⟩
    have hs2 := slArgN_own hown
    have hs3 := hs1.kept hk
    have hB3 := hB2.trans (hk.mono hB2.size)
    clear hk hown hs1 hB2 hrr
    have hsm := rsame_eq w3 _ _ l.length _ _ (fun i => l.getD i default) hs3 hs2 hll2
    go_wp2_with (go_at_call 14; (refine hsm.mono ?_); rintro x w11 ⟨rfl, n11, rfl⟩)
    go_ret
    exact ⟨ret_bool (by simp), below_drewN hB3 _⟩
  · have hd : decide ((1000 : Int) < s.size) = true := by simp; omega
    have hd' : (1000 : Int) < s.size := by omega
    clear hl
    go_enter Try.func4, Try.ntmps4
    go_wp2_with (go_at_call 9; (with_reducible refine (awake6 _).mono ?_); rintro x0 w1 ⟨rfl, hk⟩; have hB1 := hB0.trans (hk.mono hB0.size); clear hk)
    go_wp2_with (go_at_call 9; (with_reducible refine (awake6 _).mono ?_); rintro x0 w2 ⟨rfl, hk⟩; have hB2 := hB1.trans (hk.mono hB1.size); clear hk)
    go_ret
    exact ⟨rfl, hB2⟩
set_option maxHeartbeats 2000000 in
theorem coilOne_law (cy ct : Int) (s : ByteArray) (w : World) (hcy : (Lit.int .u64 cy).wf = true) (hct : (Lit.int .u64 ct).wf = true) (hs : s.size ≤ maxLen) :
    Calls Try.prog 6 #[.int .u64 cy, .int .u64 ct, .string s] w fun e w' => e = .returned (.bool true) ∧ Below w.heap.size w w' := by
  obtain ⟨cy, rfl, h1⟩ := u64_of hcy
  obtain ⟨ct, rfl, h2⟩ := u64_of hct
  unfold U64 at h1 h2
  unfold maxLen at hs
  have HN := Lib.hid (And.intro h1 h2)
  clear h1 h2 hcy hct
  have hB0 := Below.refl w.heap.size w
  by_cases hl : s.size ≤ 1000
  · have hd : decide ((1000 : Int) < s.size) = false := by simp; omega
    have hd' : ¬ (1000 : Int) < s.size := by omega
    have hrd := fun x => cread_any s cy ct HN.out.1 HN.out.2 (by omega) x
    have hll := rdS_len s cy ct
    have hone := fun l (h : rdL s s.size cy ct 0 = (l, 0)) => coil_one s cy ct s.size l (Nat.le_refl _) h
    have hsl : (rdL s s.size cy ct 0).2 = 0 → rdS s cy ct = (rdL s s.size cy ct 0).1 := fun h => by unfold rdS; rw [if_pos h]
    obtain ⟨⟨l, er⟩, hle⟩ : ∃ t, t = rdL s s.size cy ct 0 := ⟨_, rfl⟩
    rw [← hle] at hrd hone hsl
    simp only at hrd hone hsl
    by_cases q : er = 0
    · rw [hsl q] at hrd hll
      rw [q] at hrd
      have hone1 := hone l (by rw [q])
      clear hone hsl hle q
      have HO := Lib.hid hone1
      have hll2 : l.length ≤ 100000 := by omega
      clear hone1 hll
      cases hL : l with
      | nil =>
        obtain ⟨o1, o2, o3⟩ := HO.out (fun h => by rw [hL] at h; exact absurd h (by simp))
        rw [hL] at hrd o1 o2 o3
        have e0 : s = ⟨#[]⟩ := by
          have h1 : s.data.toList = [] := o3.symm
          have h2 : s.data = #[] := by simpa using h1
          obtain ⟨d⟩ := s
          simp only at h2
          rw [h2]
        clear o1 o2 o3 HO hL hll2
        subst e0
        go_enter Try.func6, Try.ntmps6
        go_wp2_with fail
        refine (awake6 _).mono ?_
        rintro x0 w1 ⟨rfl, hk⟩
        have hB1 := hB0.trans (hk.mono hB0.size)
        clear hk hB0
        go_wp2_with fail
        refine (hrd _).mono ?_
        rintro x w2 ⟨ao, cap, rfl, hown, hk⟩
        have hs1 : SlArgN w2 ao 0 cap 6 (fun i j => ((fun _ => default : Nat → Ev) i).f j) := ⟨Nat.zero_le _, (slArgN_own hown).2.1, fun i hi => absurd hi (Nat.not_lt_zero _)⟩
        have hB2 := hB1.trans (hk.mono hB1.size)
        clear hk hown hrd hB1
        have hpr := cprint_any w2 ao 0 cap (fun _ => default) hs1 (fun i hi => absurd hi (Nat.not_lt_zero _)) (by decide)
        rw [show prnS (fun _ => (default : Ev)) 0 = [] from rfl, show prnE (fun _ => (default : Ev)) 0 = 0 from rfl] at hpr
        go_wp2_with fail
        refine hpr.mono ?_
        rintro x w3 ⟨rfl, hk⟩
        have hB3 := hB2.trans (hk.mono hB2.size)
        go_wp2_with fail
        go_ret
        exact ⟨rfl, hB3⟩
      | cons e0 l0 =>
        have hcell : (l.getD 0 default).cy = e0.cy ∧ (l.getD 0 default).ct = e0.ct := by rw [hL]; exact ⟨rfl, rfl⟩
        have hp1 : 0 < l.length := by rw [hL]; simp
        have hp2 : (0 : Int) < l.length := by omega
        clear hL
        go_enter Try.func6, Try.ntmps6
        go_wp2_with fail
        refine (awake6 _).mono ?_
        rintro x0 w1 ⟨rfl, hk⟩
        have hB1 := hB0.trans (hk.mono hB0.size)
        clear hk hB0
        go_wp2_with fail
        refine (hrd _).mono ?_
        rintro x w2 ⟨ao, cap, rfl, hown, hk⟩
        have hs1 := slArgN_own hown
        have hB2 := hB1.trans (hk.mono hB1.size)
        clear hk hown hrd hB1
        obtain ⟨b, off, hoa, hbl, hc⟩ := hs1.2.2 0 hp1
        have c1 : w2.cell? ⟨b, off + 1, none⟩ = some (.int .u64 e0.cy) := by have h := hc 1 (by decide); rw [show off + 0 * 6 + 1 = off + 1 by omega] at h; rw [← hcell.1]; exact h
        have c2 : w2.cell? ⟨b, off + 2, none⟩ = some (.int .u64 e0.ct) := by have h := hc 2 (by decide); rw [show off + 0 * 6 + 2 = off + 2 by omega] at h; rw [← hcell.2]; exact h
        clear hc hbl
        subst hoa
        by_cases t1 : e0.cy = cy
        · by_cases t2 : e0.ct = ct
          · obtain ⟨o1, o2, o3⟩ := HO.out (fun _ => ⟨by rw [hcell.1, t1], by rw [hcell.2, t2]⟩)
            have g1 : ((e0.cy : Int) != cy) = false := by simp [t1]
            have g2 : ((e0.ct : Int) != ct) = false := by simp [t2]
            have hpr := cprint_any w2 _ l.length cap (fun i => l.getD i default) hs1 o1 hll2
            have hS : (⟨(prnS (fun i => l.getD i default) l.length).toArray⟩ : ByteArray) = s := by
              unfold prnS
              rw [if_pos o2, o3]
            rw [hS, o2] at hpr
            clear hS o1 o2 o3 HO hcell hs1 t1 t2
            go_wp2_with fail
            refine hpr.mono ?_
            rintro x w3 ⟨rfl, hk⟩
            have hB3 := hB2.trans (hk.mono hB2.size)
            go_wp2_with fail
            go_ret
            exact ⟨ret_bool (by simp), hB3⟩
          · have g1 : ((e0.cy : Int) != cy) = false := by simp [t1]
            have g2 : ((e0.ct : Int) != ct) = true := by simp; omega
            clear HO hcell hs1 t1 t2
            go_wp2_with fail
            go_ret
            exact ⟨rfl, hB2⟩
        · have g1 : ((e0.cy : Int) != cy) = true := by simp; omega
          clear HO hcell hs1 t1
          go_wp2_with fail
          go_ret
          exact ⟨rfl, hB2⟩
    · have zz : (er != 0) = true := by simp [q]
      clear hone hsl hle hll q
      generalize rdS s cy ct = l2 at hrd
      go_enter Try.func6, Try.ntmps6
      go_wp2_with fail
      refine (awake6 _).mono ?_
      rintro x0 w1 ⟨rfl, hk⟩
      have hB1 := hB0.trans (hk.mono hB0.size)
      clear hk hB0
      go_wp2_with fail
      refine (hrd _).mono ?_
      rintro x w2 ⟨ao, cap, rfl, hown, hk⟩
      have hs1 := slArgN_own hown
      have hB2 := hB1.trans (hk.mono hB1.size)
      clear hk hown hrd hB1
      go_wp2_with fail
      go_ret
      exact ⟨rfl, hB2⟩
  · have hd : decide ((1000 : Int) < s.size) = true := by simp; omega
    have hd' : (1000 : Int) < s.size := by omega
    clear hl
    go_enter Try.func6, Try.ntmps6
    go_wp2_with (go_at_call 9; (with_reducible refine (awake6 _).mono ?_); rintro x0 w1 ⟨rfl, hk⟩; have hB1 := hB0.trans (hk.mono hB0.size); clear hk)
    go_wp2_with (go_at_call 9; (with_reducible refine (awake6 _).mono ?_); rintro x0 w2 ⟨rfl, hk⟩; have hB2 := hB1.trans (hk.mono hB1.size); clear hk)
    go_ret
    exact ⟨rfl, hB2⟩
set_option maxHeartbeats 2000000 in
theorem coilRuns_law (oa : Option Addr) (len cap : Nat) (z : Nat → Ev) (w : World) (hs : SlArgN w oa len cap 6 (fun i j => (z i).f j)) (hr : cap * 40 ≤ 140737488351232) (hx : (∀ i, i < len → (z i).Wf) ∧ (oa = none → cap = 0)) :
    Calls Try.prog 8 #[.slice oa len cap] w fun e w' => e = .returned (.bool true) ∧ Below w.heap.size w w' := by
  have HX := Lib.hid hx
  clear hx
  obtain ⟨i0, hi, hz0, hz1, hz2⟩ := ev_info
  have ul : Try.prog.underlying 22 = some (.slice 39) := by kernel_rfl
  have hB0 := Below.refl w.heap.size w
  by_cases hl : len ≤ 100
  · have hd : decide ((100 : Int) < len) = false := by simp; omega
    have hd' : ¬ (100 : Int) < len := by omega
    go_enter Try.func8, Try.ntmps8
    go_wp2_with fail
    refine (awake6 _).mono ?_
    rintro x0 w1 ⟨rfl, hk⟩
    have hs1 := hs.kept hk
    have hB1 := hB0.trans (hk.mono hB0.size)
    clear hk hB0
    have hlit := World.ownsRow_lit (e := 39) (base := w1.heap.size) (size := 6) w1 #[] 0 (Nat.le_refl _) (by decide) rfl
    have hsr := evs_src hs1 ((Below.refl w1.heap.size w1).alloc (Nat.le_refl _) (.cells #[] 39)) HX.out.2
    have hlen : (evCells ((List.range len).map z)).length = len * 6 := by rw [evCells_length]; simp
    have hlenm : 0 + len ≤ maxLen := by unfold maxLen; omega
    have hlenb : (0 + len) * 40 ≤ 140737488355328 := by omega
    have HL := Lib.hid (And.intro hlen (And.intro hlenm hlenb))
    clear hlen hlenm hlenb
    go_wp2_with (at_builtin; (refine list_append rfl (.tmp 16) (.tmp 17) 22 rfl w1.heap.size (by simp) 39 i0 _ 6 40 ul hi hz0 hz1 hz2 rfl (by decide) (.slice (some ⟨w1.heap.size, 0, none⟩) 0 0) 0 [] rfl hlit _ len (evCells ((List.range len).map z)) rfl HL.out.1 hsr (evCells_one _) HL.out.2.1 HL.out.2.2 ?_); intro ao cap2 w2 hown' hg' hat; have hk := below_append ((Below.refl w1.heap.size w1).alloc (Nat.le_refl _) _) hlit hg' (by simp); simp only [Nat.zero_add, List.nil_append] at hown'; have hs2 := evs_own hown' rfl; have hs3 := hs1.kept hk; have hB2 := hB1.trans (hk.mono hB1.size); clear hk hg' hat hown' hsr hlit hs1 hB1)
    refine (cprint_any w2 ao len cap2 z hs2 HX.out.1 (by omega)).mono ?_
    rintro x w3 ⟨rfl, hk⟩
    have hs4 := hs3.kept hk
    have hB3 := hB2.trans (hk.mono hB2.size)
    clear hk hs2 hs3 hB2
    have hru := coil_runs z len HX.out.1
    have hE := Lib.hid (fun h : prnE z len ≠ 0 => (show prnS z len = [] by unfold prnS; rw [if_neg h]))
    have hpl : (prnS z len).length ≤ 51 * len := by
      unfold prnS; split
      · exact prnC_len z len
      · simp
    generalize prnS z len = L at hru hpl hE ⊢
    generalize prnE z len = E at hru hE ⊢
    obtain ⟨S, hS⟩ : ∃ S : ByteArray, S = ⟨L.toArray⟩ := ⟨_, rfl⟩
    rw [← hS]
    have hSL : S.data.toList = L := by rw [hS]
    have hsz : S.size = L.length := by rw [← hSL]; simp
    have hsb : S.size ≤ 10000 := by omega
    have HR := Lib.hid (And.intro hru hSL)
    have HSZ := Lib.hid hsz
    clear hru hSL hS hsz hpl hs4
    go_wp2_with fail
    go_loop [5, 6] (fun r i => ∃ k r' : Nat, i = .int .i64 k ∧ r = .int .i64 r' ∧ k ≤ S.size ∧ r' ≤ 4 ∧ rn r' (L.drop k) = some 0) (fun _ i => S.size - (intOf i).toNat)
    case atStart => exact ⟨0, 0, rfl, rfl, by omega, by omega, HR.out.1.1⟩
    case round =>
      obtain ⟨k, r', rfl, rfl, hk, hr4, hrn⟩ := hrel
      by_cases hlt : k < S.size
      · have hdr : L.drop k = S[k] :: L.drop (k + 1) := by
          rw [← HR.out.2, List.drop_eq_getElem_cons (by simpa using hlt)]
          simp
          rfl
        rw [hdr, rn] at hrn
        by_cases h255 : S[k].toNat = 255
        · rw [if_pos h255] at hrn
          split at hrn
          · cases hrn
          · rename_i h4
            have HRN := Lib.hid hrn
            have hc : ((S[k].toNat : Int) != 255) = false := by simp; omega
            have h5 : ¬ (4 : Int) < r' + 1 := by omega
            clear hrn hdr h255 h4
            go_wp2
            all_goals go_round
            case rel => exact ⟨k + 1, r' + 1, by go_num, by go_num, by omega, by omega, HRN.out⟩
            case measure => simp [intOf]; omega
        · rw [if_neg h255] at hrn
          have HRN := Lib.hid hrn
          have hc : ((S[k].toNat : Int) != 255) = true := by simp; omega
          clear hrn hdr h255
          go_wp2
          all_goals go_round
          case rel => exact ⟨k + 1, 0, by go_num, rfl, by omega, by omega, HRN.out⟩
          case measure => simp [intOf]; omega
      · clear hrn
        by_cases e0 : E = 0
        · have zz : (E != 0) = false := by simp [e0]
          by_cases l0 : S.size = 0
          · have l0' : ((S.size : Int) == 0) = true := eqb_t (by omega)
            clear e0
            go_wp2_with fail
            go_ret
            exact ⟨rfl, hB3⟩
          · have l0' : ((S.size : Int) == 0) = false := eqb_f (by omega)
            have hj : S.size - 1 < S.size := by omega
            have hlo : (S[S.size - 1]'hj).toNat < 128 := by
              have h1 := HR.out.1.2 e0
              refine h1 _ ?_
              have h2 : L ≠ [] := by
                intro h
                have := HSZ.out
                rw [h] at this
                exact l0 (by simpa using this)
              rw [List.getLast?_eq_some_getLast h2, List.getLast_eq_getElem]
              have hL := HR.out.2
              subst hL
              simp
              rfl
            have hi : ((S.size : Int) - 1) = ((S.size - 1 : Nat) : Int) := by omega
            have hlo' : ((S[S.size - 1]'hj).toNat : Int) < 128 := by omega
            clear e0
            go_wp2_with fail
            go_ret
            exact ⟨ret_bool (by simp), hB3⟩
        · have zz : (E != 0) = true := by simp [e0]
          clear e0
          go_wp2_with fail
          go_ret
          exact ⟨rfl, hB3⟩
  · have hd : decide ((100 : Int) < len) = true := by simp; omega
    have hd' : (100 : Int) < len := by omega
    clear hl
    go_enter Try.func8, Try.ntmps8
    go_wp2_with (go_at_call 9; (with_reducible refine (awake6 _).mono ?_); rintro x0 w1 ⟨rfl, hk⟩; have hB1 := hB0.trans (hk.mono hB0.size); clear hk)
    go_wp2_with (go_at_call 9; (with_reducible refine (awake6 _).mono ?_); rintro x0 w2 ⟨rfl, hk⟩; have hB2 := hB1.trans (hk.mono hB1.size); clear hk)
    go_ret
    exact ⟨rfl, hB2⟩
set_option maxHeartbeats 2000000 in
theorem coilSize_walk (a b : Ev) (ha : a.Wf) (hb : b.Wf) (w : World) : Calls Try.prog 7 #[a.val, b.val] w fun e w' => e = .returned (.bool true) ∧ Below w.heap.size w w' := by
  have hck := fun x => rcheck_any a x
  have hsz := fun x => csize_any a b ha hb x
  have hp1 := fun x o h => cprint_any x (some o) 1 1 (fun _ => a) h (fun _ _ => ha) (by decide)
  have hp2 := fun x o h => cprint_any x (some o) 2 2 (fun i => if i = 0 then a else b) h (fun i _ => by show (if i = 0 then a else b).Wf; split; exact ha; exact hb) (by decide)
  have hs1 := fun x => slN_one x a
  have hs2 := fun x => slN_two x a b
  have hself : a.chk = 0 → evErr a a = 0 := fun h => evErr_ok.2 ⟨h, by rw [stp_self]⟩
  have e1 : a.chk = 0 → prnE (fun _ => a) 1 = 0 := fun h => by
    show (if prnE (fun _ => a) 0 = 0 then evErr a a else prnE (fun _ => a) 0) = 0
    rw [show prnE (fun _ => a) 0 = 0 from rfl, if_pos rfl, hself h]
  have e2 : a.chk = 0 → prnE (fun i => if i = 0 then a else b) 2 = evErr a b := fun h => by
    have h1 : prnE (fun i => if i = 0 then a else b) 1 = 0 := by
      show (if (0 : Int) = 0 then evErr a a else 0) = 0
      rw [if_pos rfl, hself h]
    show (if prnE (fun i => if i = 0 then a else b) 1 = 0 then evErr a b else _) = _
    rw [h1, if_pos rfl]
  have l1 : a.chk = 0 → (prnS (fun _ => a) 1).length = (evBytes a a).length := fun h => by
    unfold prnS
    rw [if_pos (e1 h)]
    show ([] ++ evBytes a a).length = _
    rfl
  have l2 : a.chk = 0 → evErr a b = 0 → (prnS (fun i => if i = 0 then a else b) 2).length = (evBytes a a).length + (evBytes a b).length := fun h h2 => by
    unfold prnS
    rw [if_pos (by rw [e2 h]; exact h2)]
    show (([] ++ evBytes a a) ++ evBytes a b).length = _
    simp
  have hok : evErr a b = 0 → szV a b = (evBytes a b).length ∧ 3 ≤ (evBytes a b).length ∧ (evBytes a b).length ≤ 20 := fun h => by
    obtain ⟨h1, h2⟩ := evErr_ok.1 h
    exact ⟨by unfold szV; rw [if_pos ⟨h2, h1⟩], evb_pos a b, evb_le hb h2 h1⟩
  have hno : evErr a b ≠ 0 → szV a b = 0 := fun h => by
    unfold szV
    rw [if_neg]
    rintro ⟨h1, h2⟩
    exact h (evErr_ok.2 ⟨h2, h1⟩)
  obtain ⟨ka, cya, cta, aa, ab, av⟩ := a
  obtain ⟨kb, cyb, ctb, ba, bb, bv⟩ := b
  have HE := Lib.hid (And.intro e1 (And.intro e2 (And.intro l1 (And.intro l2 (And.intro hok hno)))))
  clear e1 e2 l1 l2 hok hno hself ha hb
  simp only [Ev.val] at hck hsz
  unfold Ev.val
  simp only
  generalize hcc : (Ev.mk ka cya cta aa ab av).chk = cc at hck HE
  clear hcc
  have hB0 := ((Below.refl w.heap.size w).alloc (Nat.le_refl _) (.cells #[.int .i64 ka, .int .u64 cya, .int .u64 cta, .int .u32 aa, .int .u32 ab, .int .u32 av] 39)).alloc (by simp) (.cells #[.int .i64 kb, .int .u64 cyb, .int .u64 ctb, .int .u32 ba, .int .u32 bb, .int .u32 bv] 39)
  have hba : ((w.alloc (.cells #[.int .i64 ka, .int .u64 cya, .int .u64 cta, .int .u32 aa, .int .u32 ab, .int .u32 av] 39)).alloc (.cells #[.int .i64 kb, .int .u64 cyb, .int .u64 ctb, .int .u32 ba, .int .u32 bb, .int .u32 bv] 39)).heap[w.heap.size]? = some (.cells (Ev.cells ⟨ka, cya, cta, aa, ab, av⟩).toArray 39 (0, 0)) := blk_alloc (heap_alloc_new w _) _
  have hbb : ((w.alloc (.cells #[.int .i64 ka, .int .u64 cya, .int .u64 cta, .int .u32 aa, .int .u32 ab, .int .u32 av] 39)).alloc (.cells #[.int .i64 kb, .int .u64 cyb, .int .u64 ctb, .int .u32 ba, .int .u32 bb, .int .u32 bv] 39)).heap[w.heap.size + 1]? = some (.cells (Ev.cells ⟨kb, cyb, ctb, ba, bb, bv⟩).toArray 39 (0, 0)) := by simpa [Ev.cells] using heap_alloc_new (w.alloc (.cells #[.int .i64 ka, .int .u64 cya, .int .u64 cta, .int .u32 aa, .int .u32 ab, .int .u32 av] 39)) (.cells #[.int .i64 kb, .int .u64 cyb, .int .u64 ctb, .int .u32 ba, .int .u32 bb, .int .u32 bv] 39)
  go_enter Try.func7, Try.ntmps7
  go_wp2_with fail
  generalize (w.alloc (.cells #[.int .i64 ka, .int .u64 cya, .int .u64 cta, .int .u32 aa, .int .u32 ab, .int .u32 av] 39)).alloc (.cells #[.int .i64 kb, .int .u64 cyb, .int .u64 ctb, .int .u32 ba, .int .u32 bb, .int .u32 bv] 39) = W0 at hB0 hba hbb ⊢
  obtain ⟨g, hg⟩ : ∃ g, g = w.heap.size := ⟨_, rfl⟩
  obtain ⟨g', hg'⟩ : ∃ g', g' = g + 1 := ⟨_, rfl⟩
  rw [← hg] at hba hbb ⊢
  rw [← hg'] at hbb ⊢
  clear hg hg'
  refine (awake6 _).mono ?_
  rintro x0 w1 ⟨rfl, hk⟩
  have hba1 := (hk.block _ (blk_lt hba)).trans hba
  have hbb1 := (hk.block _ (blk_lt hbb)).trans hbb
  have hB1 := hB0.trans (hk.mono hB0.size)
  clear hk hB0 hba hbb
  obtain ⟨c0, c1, c2, c3, c4, c5⟩ := ev_cells hba1
  simp only at c0 c1 c2 c3 c4 c5
  by_cases z : cc = 0
  · have zz : (cc != 0) = false := by simp [z]
    have Z := Lib.hid z
    clear z
    go_wp2_with fail
    refine (hck _).mono ?_
    rintro x w2 ⟨rfl, hk⟩
    have hba2 := (hk.block _ (blk_lt hba1)).trans hba1
    have hbb2 := (hk.block _ (blk_lt hbb1)).trans hbb1
    have hB2 := hB1.trans (hk.mono hB1.size)
    clear hk hB1 hba1 hbb1 c0 c1 c2 c3 c4 c5
    obtain ⟨c0, c1, c2, c3, c4, c5⟩ := ev_cells hba2
    simp only at c0 c1 c2 c3 c4 c5
    have s1 := hs1 w2
    simp only [Ev.cells] at s1
    go_wp2_with fail
    have hB3 := hB2.alloc hB2.size (.cells #[.int .i64 ka, .int .u64 cya, .int .u64 cta, .int .u32 aa, .int .u32 ab, .int .u32 av] 39)
    have hba3 := blk_alloc hba2 (.cells #[.int .i64 ka, .int .u64 cya, .int .u64 cta, .int .u32 aa, .int .u32 ab, .int .u32 av] 39)
    have hbb3 := blk_alloc hbb2 (.cells #[.int .i64 ka, .int .u64 cya, .int .u64 cta, .int .u32 aa, .int .u32 ab, .int .u32 av] 39)
    have hs3 : SlArgN (w2.alloc (.cells #[.int .i64 ka, .int .u64 cya, .int .u64 cta, .int .u32 aa, .int .u32 ab, .int .u32 av] 39)) (some ⟨w2.heap.size, 0, none⟩) 1 1 6 (fun i j => ((fun _ => (Ev.mk ka cya cta aa ab av)) i).f j) := s1
    obtain ⟨e1, e2, l1, l2, hok, hno⟩ := HE.out
    have e1 := e1 Z.out
    have e2 := e2 Z.out
    have l1 := l1 Z.out
    have l2 := l2 Z.out
    have z1 : (⟨(prnS (fun _ => Ev.mk ka cya cta aa ab av) 1).toArray⟩ : ByteArray).size = (prnS (fun _ => Ev.mk ka cya cta aa ab av) 1).length := by show (List.toArray _).size = _; simp
    have z2 : (⟨(prnS (fun i => if i = 0 then Ev.mk ka cya cta aa ab av else Ev.mk kb cyb ctb ba bb bv) 2).toArray⟩ : ByteArray).size = (prnS (fun i => if i = 0 then Ev.mk ka cya cta aa ab av else Ev.mk kb cyb ctb ba bb bv) 2).length := by show (List.toArray _).size = _; simp
    rw [l1] at z1
    rw [← z2] at l2
    clear z2 l1 HE
    generalize (⟨(prnS (fun _ => Ev.mk ka cya cta aa ab av) 1).toArray⟩ : ByteArray) = S1 at z1 hp1
    generalize (⟨(prnS (fun i => if i = 0 then Ev.mk ka cya cta aa ab av else Ev.mk kb cyb ctb ba bb bv) 2).toArray⟩ : ByteArray) = S2 at l2 hp2
    rw [e1] at hp1
    rw [e2] at hp2
    generalize szV (Ev.mk ka cya cta aa ab av) (Ev.mk kb cyb ctb ba bb bv) = n at hok hno hsz
    generalize evErr (Ev.mk ka cya cta aa ab av) (Ev.mk kb cyb ctb ba bb bv) = E at l2 hok hno hp2
    generalize (evBytes (Ev.mk ka cya cta aa ab av) (Ev.mk ka cya cta aa ab av)).length = p at z1 l2
    generalize (evBytes (Ev.mk ka cya cta aa ab av) (Ev.mk kb cyb ctb ba bb bv)).length = q at l2 hok
    have HF := Lib.hid (And.intro z1 (And.intro l2 (And.intro hok hno)))
    clear z1 l2 hok hno e1 e2
    refine (hp1 _ _ hs3).mono ?_
    rintro x w3 ⟨rfl, hk⟩
    have hba4 := (hk.block _ (blk_lt hba3)).trans hba3
    have hbb4 := (hk.block _ (blk_lt hbb3)).trans hbb3
    have hB4 := hB3.trans (hk.mono hB3.size)
    clear hk hB3 hba3 hbb3 c0 c1 c2 c3 c4 c5 hs3 hp1 s1
    obtain ⟨c0, c1, c2, c3, c4, c5⟩ := ev_cells hba4
    obtain ⟨d0, d1, d2, d3, d4, d5⟩ := ev_cells hbb4
    simp only at c0 c1 c2 c3 c4 c5 d0 d1 d2 d3 d4 d5
    have hs5 : SlArgN (w3.alloc (.cells #[.int .i64 ka, .int .u64 cya, .int .u64 cta, .int .u32 aa, .int .u32 ab, .int .u32 av, .int .i64 kb, .int .u64 cyb, .int .u64 ctb, .int .u32 ba, .int .u32 bb, .int .u32 bv] 39)) (some ⟨w3.heap.size, 0, none⟩) 2 2 6 (fun i j => ((fun i => if i = 0 then Ev.mk ka cya cta aa ab av else Ev.mk kb cyb ctb ba bb bv) i).f j) := hs2 w3
    go_wp2_with fail
    have hB5 := hB4.alloc hB4.size (.cells #[.int .i64 ka, .int .u64 cya, .int .u64 cta, .int .u32 aa, .int .u32 ab, .int .u32 av, .int .i64 kb, .int .u64 cyb, .int .u64 ctb, .int .u32 ba, .int .u32 bb, .int .u32 bv] 39)
    have hba5 := blk_alloc hba4 (.cells #[.int .i64 ka, .int .u64 cya, .int .u64 cta, .int .u32 aa, .int .u32 ab, .int .u32 av, .int .i64 kb, .int .u64 cyb, .int .u64 ctb, .int .u32 ba, .int .u32 bb, .int .u32 bv] 39)
    have hbb5 := blk_alloc hbb4 (.cells #[.int .i64 ka, .int .u64 cya, .int .u64 cta, .int .u32 aa, .int .u32 ab, .int .u32 av, .int .i64 kb, .int .u64 cyb, .int .u64 ctb, .int .u32 ba, .int .u32 bb, .int .u32 bv] 39)
    refine (hp2 _ _ hs5).mono ?_
    rintro x w6 ⟨rfl, hk⟩
    have hba6 := (hk.block _ (blk_lt hba5)).trans hba5
    have hbb6 := (hk.block _ (blk_lt hbb5)).trans hbb5
    have hB6 := hB5.trans (hk.mono hB5.size)
    clear hk hB5 hba5 hbb5 hba4 hbb4 c0 c1 c2 c3 c4 c5 d0 d1 d2 d3 d4 d5 hs5 hp2 hs1 hs2
    obtain ⟨c0, c1, c2, c3, c4, c5⟩ := ev_cells hba6
    obtain ⟨d0, d1, d2, d3, d4, d5⟩ := ev_cells hbb6
    simp only at c0 c1 c2 c3 c4 c5 d0 d1 d2 d3 d4 d5
    go_wp2_with fail
    refine (hsz _).mono ?_
    rintro x w7 ⟨rfl, hk⟩
    have hB7 := hB6.trans (hk.mono hB6.size)
    clear hk hB6 hba6 hbb6 c0 c1 c2 c3 c4 c5 d0 d1 d2 d3 d4 d5 hsz
    obtain ⟨z1, l2, hok, hno⟩ := HF.out
    clear HF
    by_cases t : E = 0
    · have zE : (E != 0) = false := by simp [t]
      obtain ⟨rfl, h3, h20⟩ := hok t
      have z2 := l2 t
      have hq : (S2.size : Int) - S1.size = (n : Int) := by omega
      have h3' : (3 : Int) ≤ n := by omega
      have h20' : (n : Int) ≤ 20 := by omega
      have hlb : S1.size ≤ 1000 ∨ True := .inr trivial
      clear hok hno l2 z1 z2 h3 h20 t hlb
      go_wp2_with fail
      go_ret
      exact ⟨ret_bool (by simp), hB7⟩
    · have zE : (E != 0) = true := by simp [t]
      have hn := hno t
      subst hn
      clear hok hno l2 z1 t
      go_wp2_with fail
      go_ret
      exact ⟨rfl, hB7⟩
  · have zz : (cc != 0) = true := by simp [z]
    clear z HE hp1 hp2 hs1 hs2 hsz
    go_wp2_with fail
    refine (hck _).mono ?_
    rintro x w2 ⟨rfl, hk⟩
    have hB2 := hB1.trans (hk.mono hB1.size)
    clear hk
    go_wp2_with (go_at_call 9; (with_reducible refine (awake6 _).mono ?_); rintro x0 w3 ⟨rfl, hk⟩; have hB3 := hB2.trans (hk.mono hB2.size); clear hk)
    go_ret
    exact ⟨rfl, hB3⟩
theorem arg_struct39 {H : Type} {enc : TypeId × Value → H} {W : World} {base : Nat} {held : Bool} {v : Value} {d : DataW H} {ps : List MemPlace}
    (hv : ∃ cs, v = .agg cs ∧ cs.size = Try.prog.cellsOf 39) (h : DataW.Trod enc Try.prog W base (fun _ => true) held 39 v d ps) : ∃ e : Ev, v = e.val ∧ e.Wf := by
  obtain ⟨cs, rfl, hsz⟩ := hv
  obtain ⟨fuel, hf⟩ := h
  have h6 : Try.prog.cellsOf 39 = 6 := by kernel_rfl
  rw [h6] at hsz
  obtain ⟨e, he, hw⟩ := ev_of (cs := cs.toList) (by simpa using hsz) hf
  refine ⟨e, ?_, hw⟩
  obtain ⟨l⟩ := cs
  simp only at he
  subst he
  rfl
theorem coilSize_law (a b : Ev) (w : World) (ha : a.Wf) (hb : b.Wf) : Calls Try.prog 7 #[a.val, b.val] w fun e w' => e = .returned (.bool true) ∧ Below w.heap.size w w' := coilSize_walk a b ha hb w
end Go.Proofs.Ytnkpajoakmilaaa
