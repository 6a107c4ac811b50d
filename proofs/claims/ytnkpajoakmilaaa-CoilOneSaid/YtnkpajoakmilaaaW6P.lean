/- The walks of the statements of layer 6. (Printed by gen_w6p.py.) -/
import Derived.Test.YtnkpajoakmilaaaW6
namespace Go.Proofs.Ytnkpajoakmilaaa
open Go.WideShapes Go.Deep Go.RowKit
set_option maxRecDepth 20000
theorem blk_lt_cell {w : World} {b i : Nat} {v : Value} (h : w.cell? ⟨b, i, none⟩ = some v) : b < w.heap.size := World.block_lt_of_cell? w _ h
set_option maxHeartbeats 2000000 in
theorem coilPrints_law (oa : Option Addr) (len cap : Nat) (z : Nat → Ev) (w : World) (hs : SlArgN w oa len cap 6 (fun i j => (z i).f j)) (hr : cap * 40 ≤ 140737488351232) (hx : (∀ i, i < len → (z i).Wf) ∧ (oa = none → cap = 0)) :
    Calls Try.prog 3 #[.slice oa len cap] w fun e w' => e = .returned (.bool true) ∧ Below w.heap.size w w' := by
  have HX := Lib.hid hx
  clear hx
  obtain ⟨i0, hi, hz0, hz1, hz2⟩ := ev_info
  have ul : Try.prog.underlying 22 = some (.slice 39) := by kernel_rfl
  have hB0 := Below.refl w.heap.size w
  by_cases hl : len ≤ 100
  · have hd : decide ((100 : Int) < len) = false := by simp; omega
    have hd' : ¬ (100 : Int) < len := by omega
    go_enter Try.func3, Try.ntmps3
    go_wp2_with fail
    refine (awake6 _).mono ?_
    rintro x0 w1 ⟨rfl, hk⟩
    have hs1 := hs.kept hk
    have hB1 := hB0.trans (hk.mono hB0.size)
    clear hk hB0
    have hlit := World.ownsRow_lit (e := 39) (base := w1.heap.size) (size := 6) w1 #[] 0 (Nat.le_refl _) (by decide) rfl
    have hsr := evs_src hs1 ((Below.refl w1.heap.size w1).alloc (Nat.le_refl _) (.cells #[] 39)) HX.out.2
    have hlen : (evCells ((List.range len).map z)).length = len * 6 := by rw [evCells_length]; simp
    have hlenm : 0 + len ≤ maxLen := by unfold maxLen; omega
    have hlenb : (0 + len) * 40 ≤ 140737488355328 := by omega
    have HL := Lib.hid (And.intro hlen (And.intro hlenm hlenb))
    clear hlen hlenm hlenb
    go_wp2_with (at_builtin; (refine list_append rfl (.tmp 16) (.tmp 17) 22 rfl w1.heap.size (by simp) 39 i0 _ 6 40 ul hi hz0 hz1 hz2 rfl (by decide) (.slice (some ⟨w1.heap.size, 0, none⟩) 0 0) 0 [] rfl hlit _ len (evCells ((List.range len).map z)) rfl HL.out.1 hsr (evCells_one _) HL.out.2.1 HL.out.2.2 ?_); intro ao cap2 w2 hown' hg' hat; have hk := below_append ((Below.refl w1.heap.size w1).alloc (Nat.le_refl _) _) hlit hg' (by simp); simp only [Nat.zero_add, List.nil_append] at hown'; have hs2 := evs_own hown' rfl; have hs3 := hs1.kept hk; have hB2 := hB1.trans (hk.mono hB1.size); clear hk hg' hat hown' hsr hlit hs1 hB1)
    refine (cprint_any w2 ao len cap2 z hs2 HX.out.1 (by omega)).mono ?_
    rintro x w3 ⟨rfl, hk⟩
    have hs4 := hs3.kept hk
    have hB3 := hB2.trans (hk.mono hB2.size)
    clear hk hs2 hs3 hB2
    have hrp := fun x h => rprn_any x oa len cap z h HX.out.1 (by omega)
    generalize (⟨(prnS z len).toArray⟩ : ByteArray) = S at hrp ⊢
    generalize prnE z len = E at hrp ⊢
    go_wp2_with fail
    refine (hrp _ hs4).mono ?_
    rintro x w4 ⟨rfl, hk⟩
    have hB4 := hB3.trans (hk.mono hB3.size)
    go_wp2_with fail
    go_ret
    exact ⟨ret_bool (by simp), hB4⟩
  · have hd : decide ((100 : Int) < len) = true := by simp; omega
    have hd' : (100 : Int) < len := by omega
    clear hl
    go_enter Try.func3, Try.ntmps3
    go_wp2_with (go_at_call 9; (with_reducible refine (awake6 _).mono ?_); rintro x0 w1 ⟨rfl, hk⟩; have hB1 := hB0.trans (hk.mono hB0.size); clear hk)
    go_wp2_with (go_at_call 9; (with_reducible refine (awake6 _).mono ?_); rintro x0 w2 ⟨rfl, hk⟩; have hB2 := hB1.trans (hk.mono hB1.size); clear hk)
    go_ret
    exact ⟨rfl, hB2⟩
set_option maxHeartbeats 2000000 in
theorem coilBack_law (oa : Option Addr) (len cap : Nat) (z : Nat → Ev) (w : World) (hs : SlArgN w oa len cap 6 (fun i j => (z i).f j)) (hr : cap * 40 ≤ 140737488351232) (hx : (∀ i, i < len → (z i).Wf) ∧ (oa = none → cap = 0)) :
    Calls Try.prog 5 #[.slice oa len cap] w fun e w' => e = .returned (.bool true) ∧ Below w.heap.size w w' := by
  have HX := Lib.hid hx
  clear hx
  obtain ⟨i0, hi, hz0, hz1, hz2⟩ := ev_info
  have ul : Try.prog.underlying 22 = some (.slice 39) := by kernel_rfl
  have hB0 := Below.refl w.heap.size w
  by_cases hl : len ≤ 100
  · have hd : decide ((100 : Int) < len) = false := by simp; omega
    have hd' : ¬ (100 : Int) < len := by omega
    by_cases h1 : 1 ≤ len
    · have he : decide ((len : Int) < 1) = false := by simp; omega
      have he' : ¬ (len : Int) < 1 := by omega
      go_enter Try.func5, Try.ntmps5
      go_wp2_with fail
      refine (awake6 _).mono ?_
      rintro x0 w1 ⟨rfl, hk⟩
      have hs1 := hs.kept hk
      have hB1 := hB0.trans (hk.mono hB0.size)
      clear hk hB0
      have hlit := World.ownsRow_lit (e := 39) (base := w1.heap.size) (size := 6) w1 #[] 0 (Nat.le_refl _) (by decide) rfl
      have hsr := evs_src hs1 ((Below.refl w1.heap.size w1).alloc (Nat.le_refl _) (.cells #[] 39)) HX.out.2
      have hlen : (evCells ((List.range len).map z)).length = len * 6 := by rw [evCells_length]; simp
      have hlenm : 0 + len ≤ maxLen := by unfold maxLen; omega
      have hlenb : (0 + len) * 40 ≤ 140737488355328 := by omega
      have HL := Lib.hid (And.intro hlen (And.intro hlenm hlenb))
      clear hlen hlenm hlenb
      go_wp2_with (at_builtin; (refine list_append rfl (.tmp 21) (.tmp 22) 22 rfl w1.heap.size (by simp) 39 i0 _ 6 40 ul hi hz0 hz1 hz2 rfl (by decide) (.slice (some ⟨w1.heap.size, 0, none⟩) 0 0) 0 [] rfl hlit _ len (evCells ((List.range len).map z)) rfl HL.out.1 hsr (evCells_one _) HL.out.2.1 HL.out.2.2 ?_); intro ao cap2 w2 hown' hg' hat; have hk := below_append ((Below.refl w1.heap.size w1).alloc (Nat.le_refl _) _) hlit hg' (by simp); simp only [Nat.zero_add, List.nil_append] at hown'; have hs2 := evs_own hown' rfl; have hs3 := hs1.kept hk; have hB2 := hB1.trans (hk.mono hB1.size); clear hk hg' hat hown' hsr hlit hs1 hB1)
      refine (cprint_any w2 ao len cap2 z hs2 HX.out.1 (by omega)).mono ?_
      rintro x w3 ⟨rfl, hk⟩
      have hs4 := hs3.kept hk
      have hB3 := hB2.trans (hk.mono hB2.size)
      clear hk hs2 hs3 hB2
      have hb := coil_back z len HX.out.1
      have hpl := prnC_len z len
      have hE : prnE z len = 0 → prnS z len = prnC z len := fun h => by unfold prnS; rw [if_pos h]
      by_cases q : prnE z len = 0
      · rw [q, hE q]
        have hbk := hb q _ (Nat.le_refl _)
        clear hb hE
        have Q := Lib.hid q
        clear q
        have hsz : (⟨(prnC z len).toArray⟩ : ByteArray).size = (prnC z len).length := by show (List.toArray _).size = _; simp
        have hw0 := HX.out.1 0 (by omega)
        obtain ⟨b, off, hoa, hbl, hc⟩ := hs4.2.2 0 (by omega)
        have c1 : w3.cell? ⟨b, off + 1, none⟩ = some (.int .u64 (z 0).cy) := by have h := hc 1 (by decide); rw [show off + 0 * 6 + 1 = off + 1 by omega] at h; exact h
        have c2 : w3.cell? ⟨b, off + 2, none⟩ = some (.int .u64 (z 0).ct) := by have h := hc 2 (by decide); rw [show off + 0 * 6 + 2 = off + 2 by omega] at h; exact h
        clear hc
        subst hoa
        have hrd := fun x => cread_any ⟨(prnC z len).toArray⟩ (z 0).cy (z 0).ct hw0.cy hw0.ct (by rw [hsz]; omega) x
        have hrs : rdS ⟨(prnC z len).toArray⟩ (z 0).cy (z 0).ct = (List.range len).map z := by unfold rdS; rw [hsz, hbk]; rfl
        rw [hrs] at hrd
        rw [hsz, hbk] at hrd
        generalize (⟨(prnC z len).toArray⟩ : ByteArray) = S at hrd ⊢
        generalize hcy : (z 0).cy = cy at hrd c1
        generalize hct : (z 0).ct = ct at hrd c2
        clear hbk hrs hsz hpl hw0 hcy hct
        have hl0 : (0 : Int) < len := by omega
        have hl1 : 0 < len := by omega
        have H := And.intro c1 c2
        have hgl := blk_lt_cell c1
        clear c1 c2
        go_wp2_with fail
        go_region_held3 (fun w' => w'.cell? ⟨b, off + 1, none⟩ = some (.int .u64 cy) ∧ w'.cell? ⟨b, off + 2, none⟩ = some (.int .u64 ct)) (first | exact H | exact H2) (first | (go_at_call 12; (refine (hrd _).mono ?_); rintro x w9 ⟨ao9, cap9, rfl, hown9, hk9⟩; have H2 : w9.cell? ⟨b, off + 1, none⟩ = some (.int .u64 cy) ∧ w9.cell? ⟨b, off + 2, none⟩ = some (.int .u64 ct) := ⟨(hk9.cell (p := ⟨b, off + 1, none⟩) (by exact hgl)).trans H.1, (hk9.cell (p := ⟨b, off + 2, none⟩) (by exact hgl)).trans H.2⟩))
        have hk9' : Below w3.heap.size w3 w9 := ⟨hk9.os, hk9.tape, hk9.output, hk9.size, hk9.block⟩
        have hB9 := hB3.trans (hk9'.mono hB3.size)
        have hs9 := hs4.kept hk9'
        have hl2 : ((List.range len).map z).length = len := by simp
        rw [hl2] at hown9
        have hs10 := evs_own hown9 rfl
        clear hk9 hk9' H H2 hown9 hl2 hB3 hrd
        have hsm := rsame_eq w9 _ _ len _ _ z hs9 hs10 (by omega)
        go_wp2_with (go_at_call 14; (refine hsm.mono ?_); rintro x w11 ⟨rfl, n11, rfl⟩)
        go_ret
        exact ⟨rfl, below_drewN hB9 _⟩
      · have zz : (prnE z len != 0) = true := by simp [q]
        generalize (⟨(prnS z len).toArray⟩ : ByteArray) = S
        generalize prnE z len = E at zz ⊢
        clear hb hpl hE q
        go_wp2_with fail
        go_ret
        exact ⟨rfl, hB3⟩
    · have he : decide ((len : Int) < 1) = true := by simp; omega
      have he' : (len : Int) < 1 := by omega
      clear hl h1
      go_enter Try.func5, Try.ntmps5
      go_wp2_with (go_at_call 9; (with_reducible refine (awake6 _).mono ?_); rintro x0 w1 ⟨rfl, hk⟩; have hB1 := hB0.trans (hk.mono hB0.size); clear hk)
      go_wp2_with (go_at_call 9; (with_reducible refine (awake6 _).mono ?_); rintro x0 w2 ⟨rfl, hk⟩; have hB2 := hB1.trans (hk.mono hB1.size); clear hk)
      go_ret
      exact ⟨rfl, hB2⟩
  · have hd : decide ((100 : Int) < len) = true := by simp; omega
    have hd' : (100 : Int) < len := by omega
    clear hl
    go_enter Try.func5, Try.ntmps5
    go_wp2_with (go_at_call 9; (with_reducible refine (awake6 _).mono ?_); rintro x0 w1 ⟨rfl, hk⟩; have hB1 := hB0.trans (hk.mono hB0.size); clear hk)
    go_wp2_with (go_at_call 9; (with_reducible refine (awake6 _).mono ?_); rintro x0 w2 ⟨rfl, hk⟩; have hB2 := hB1.trans (hk.mono hB1.size); clear hk)
    go_ret
    exact ⟨rfl, hB2⟩
end Go.Proofs.Ytnkpajoakmilaaa
