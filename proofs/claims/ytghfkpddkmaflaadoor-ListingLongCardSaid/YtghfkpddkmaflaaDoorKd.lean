/- Contract of the reference's Print (layer 11). No condition but those that it names. -/
import Derived.Test.YtghfkpddkmaflaaDoorIs
import Derived.Test.YtghfkpddkmaflaaDoorJl
import Derived.Test.YtghfkpddkmaflaaDoorJo
import Derived.Test.YtghfkpddkmaflaaDoorLk
namespace Go.Proofs.YtghfkpddkmaflaaDoor
open Go Go.RowKit
set_option linter.unusedVariables false
set_option linter.unusedSimpArgs false
set_option maxRecDepth 20000
/-- The first n of some instructions. -/
def pz (z : Nat → Ins) (n : Nat) : List Ins := (List.range n).map z
theorem pz_len (z : Nat → Ins) (n : Nat) : (pz z n).length = n := by simp [pz]
theorem pz_snoc (z : Nat → Ins) (n : Nat) : pz z (n + 1) = pz z n ++ [z n] := by simp [pz, List.range_succ]
theorem pz_mem {z : Nat → Ins} {n : Nat} {i : Ins} : i ∈ pz z n ↔ ∃ k, k < n ∧ z k = i := by simp [pz]
theorem pz_cut (z : Nat → Ins) {k n : Nat} (h : k < n) : ∃ M, pz z n = pz z k ++ z k :: M := by
  obtain ⟨m, rfl⟩ : ∃ m, n = (k + 1) + m := ⟨n - (k + 1), by omega⟩
  refine ⟨(List.range m).map (fun i => z (k + 1 + i)), ?_⟩
  unfold pz
  rw [List.range_add, List.map_append, List.range_succ, List.map_append, List.map_map]
  simp
theorem prErr_app : ∀ (A : List Ins) (h : ∀ i ∈ A, i.chk = 0) (i : Ins) (B : List Ins), i.chk ≠ 0 → prErr (A ++ i :: B) = i.chk
  | [], _, i, B, h => by show (if i.chk = 0 then _ else i.chk) = _; rw [if_neg h]
  | a :: A, hA, i, B, h => by
    show (if a.chk = 0 then prErr (A ++ i :: B) else a.chk) = _
    rw [if_pos (hA a List.mem_cons_self), prErr_app A (fun j hj => hA j (List.mem_cons_of_mem _ hj)) i B h]
theorem prP_bad {z : Nat → Ins} {k n : Nat} (hk : k < n) (hn : ¬ 256 < n) (h0 : ∀ j, j < k → (z j).chk = 0) (h1 : (z k).chk ≠ 0) : prP (pz z n) = ([], (z k).chk) := by
  obtain ⟨M, hM⟩ := pz_cut z hk
  have he : prErr (pz z n) = (z k).chk := by
    rw [hM]
    exact prErr_app _ (fun i hi => by obtain ⟨j, hj, rfl⟩ := pz_mem.1 hi; exact h0 j hj) _ _ h1
  unfold prP
  rw [pz_len, if_neg hn, he, if_neg h1]
theorem prP_ok {z : Nat → Ins} {n : Nat} (hn : ¬ 256 < n) (h0 : ∀ j, j < n → (z j).chk = 0) : prP (pz z n) = (prT (pz z n), 0) := by
  unfold prP
  rw [pz_len, if_neg hn, if_pos ((prErr_zero _).2 fun i hi => by obtain ⟨j, hj, rfl⟩ := pz_mem.1 hi; exact h0 j hj)]
theorem prP_long {z : Nat → Ins} {n : Nat} (hn : 256 < n) : prP (pz z n) = ([], 4) := by
  unfold prP
  rw [pz_len, if_pos hn]
theorem txtL_snoc : ∀ (A : List (List UInt8)) (x : List UInt8), txtL (A ++ [x]) = txtL A ++ (x ++ [10])
  | [], x => by show x ++ 10 :: [] = [] ++ (x ++ [10]); simp
  | a :: A, x => by show a ++ 10 :: txtL (A ++ [x]) = (a ++ 10 :: txtL A) ++ (x ++ [10]); rw [txtL_snoc A x]; simp
theorem prT_snoc (z : Nat → Ins) (n : Nat) : prT (pz z (n + 1)) = prT (pz z n) ++ (lin (z n) ++ [10]) := by
  unfold prT
  rw [pz_snoc, List.map_append]
  exact txtL_snoc _ _
theorem lin_len (i : Ins) (hi : i.Wf) (hc : i.chk = 0) : (lin i).length ≤ 156 := by
  have h1 := joinW_len (linW i) (linW_len i hi hc)
  have h2 := linW_cnt i
  show (joinW (linW i)).length ≤ 156
  omega
theorem tx_three (A x : List UInt8) (S D : ByteArray) (hS : S = txB A) (hD : D = txB x) : S ++ (D ++ ⟨#[10]⟩) = txB (A ++ (x ++ [10])) := by
  rw [hS, hD]
  apply ByteArray.ext
  apply Array.toList_inj.1
  simp [txB, ByteArray.data_append]
theorem cell_on {w w' : World} (k : Below w.heap.size w w') {b i : Nat} (h : b < w.heap.size) : w'.cell? ⟨b, i, none⟩ = w.cell? ⟨b, i, none⟩ := by
  simp [World.cell?, k.block b h]
set_option maxHeartbeats 4000000 in
theorem rprint_any (w : World) (oa : Option Addr) (len cap : Nat) (z : Nat → Ins) (h1 : SlArgN w oa len cap 6 (fun i j => (z i).f j)) (hz : ∀ i, i < len → (z i).Wf) (hlen : len ≤ 1000000) :
    Calls Tryd.prog 19 #[.slice oa len cap] w fun x w' => x = .returned (.tuple #[.string (txB (prP (pz z len)).1), .int .i64 (prP (pz z len)).2]) ∧ Below w.heap.size w w' := by
  by_cases hn : 256 < len
  · have HQ := Lib.hid (prP_long (z := z) hn)
    have hnI : (256 : Int) < len := by omega
    clear hn h1
    go_enter Tryd.func19, Tryd.ntmps19
    go_wp2_with fail
    go_ret2
    exact ⟨by rw [HQ.out]; rfl, Below.refl _ _⟩
  · have hnI : ¬ (256 : Int) < len := by omega
    have HLN := Lib.hid hn
    have HWF := Lib.hid hz
    have hl256 : len ≤ 256 := by omega
    clear hn hz
    go_enter Tryd.func19, Tryd.ntmps19
    go_wp2_with fail
    go_loopw [4, 5] (fun u kv wr => ∃ k : Nat, kv = .int .i64 k ∧ u = .string (txB (prT (pz z k))) ∧ k ≤ len ∧ (prT (pz z k)).length ≤ 157 * k ∧ Hid (∀ j, j < k → (z j).chk = 0) ∧ Below w.heap.size w wr) (fun _ kv _ => len - (intOf kv).toNat)
    case atStart => exact ⟨0, rfl, rfl, Nat.zero_le _, Nat.zero_le _, Lib.hid (fun j hj => absurd hj (Nat.not_lt_zero _)), Below.refl _ _⟩
    case round =>
      obtain ⟨k, rfl, rfl, hk, hT, HC, hB⟩ := hrel
      have hXz := txB_size (prT (pz z k))
      obtain ⟨X, hX⟩ : ∃ X, X = txB (prT (pz z k)) := ⟨_, rfl⟩
      rw [← hX] at hXz ⊢
      have hXs : X.size ≤ 157 * k := by omega
      have HX := Lib.hid hX
      have HT := Lib.hid hT
      clear hX hXz hT
      by_cases hlt : k < len
      · have hltI : (k : Int) < len := by omega
        have h0k : (0 : Int) ≤ k := by omega
        obtain ⟨g, off, rfl, hg, a0, a1, a2, a3, a4, a5⟩ := six h1 hB (Nat.le_refl _) hlt
        have hwk := HWF.out k hlt
        have hf := fun x => rform_any (z k) hwk x
        have hL := fun (h : (z k).chk = 0) x => rline_any (z k) hwk h x
        have HLL := Lib.hid (fun (h : (z k).chk = 0) => lin_len (z k) hwk h)
        have HBAD := Lib.hid (fun (h : (z k).chk ≠ 0) => prP_bad hlt HLN.out HC.out h)
        obtain ⟨ck, hck⟩ : ∃ c, c = (z k).chk := ⟨_, rfl⟩
        rw [← hck] at hf hL HLL HBAD
        have HCK := Lib.hid hck
        clear hck
        by_cases h0 : ck = 0
        · have hL := hL h0
          have hll := HLL.out h0
          have HN2 := Lib.hid (show ∀ j, j < k + 1 → (z j).chk = 0 from fun j hj => by
            by_cases e : j = k
            · rw [e, ← HCK.out]; exact h0
            · exact HC.out j (by omega))
          have hDz := txB_size (lin (z k))
          obtain ⟨D, hD⟩ : ∃ D, D = txB (lin (z k)) := ⟨_, rfl⟩
          rw [← hD] at hL hDz
          have hDs : D.size ≤ 156 := by omega
          have HXN := Lib.hid (show X ++ (D ++ ⟨#[10]⟩) = txB (prT (pz z (k + 1))) by rw [prT_snoc]; exact tx_three _ _ _ _ HX.out hD)
          have HTN := Lib.hid (show (prT (pz z (k + 1))).length ≤ 157 * (k + 1) by
            have := HT.out
            rw [prT_snoc, List.length_append, List.length_append]
            simp
            omega)
          have d0 : (ck != 0) = false := by rw [h0]; rfl
          have hcat1 : ¬ 9223372036854775807 < D.size + 1 := by omega
          have hcat2 : ¬ 9223372036854775807 < X.size + (D.size + 1) := by omega
          clear hD hDz h0 HLL HBAD HC hll
          clear hwk
          generalize z k = e at a0 a1 a2 a3 a4 a5 hf hL HCK
          obtain ⟨o, a, b, c, d, kk⟩ := e
          simp only at a0 a1 a2 a3 a4 a5
          simp only [Ins.val] at hf hL
          go_wp2_with fail
          refine (hf _).mono ?_
          rintro e w2 ⟨rfl, hk2⟩
          have hB2 := bel_next hB hk2
          have hgr : g < wr.heap.size := by have := hB.size; omega
          have b0 := (cell_on hk2 hgr).trans a0
          have b1 := (cell_on hk2 hgr).trans a1
          have b2 := (cell_on hk2 hgr).trans a2
          have b3 := (cell_on hk2 hgr).trans a3
          have b4 := (cell_on hk2 hgr).trans a4
          have b5 := (cell_on hk2 hgr).trans a5
          clear a0 a1 a2 a3 a4 a5 hB hk2 hf
          go_wp2_with fail
          refine (hL _).mono ?_
          rintro e w3 ⟨rfl, hk3⟩
          have hB3 := bel_next hB2 hk3
          clear hB2 hk3 hL b0 b1 b2 b3 b4 b5
          go_wp2_with fail
          go_roundw
          case rel => exact ⟨k + 1, by go_num, by rw [← HXN.out], by omega, HTN.out, HN2, hB3⟩
          case measure => simp [intOf]; omega
        · have HQ := Lib.hid (HBAD.out h0)
          have d0 : (ck != 0) = true := by rw [bne_iff_ne]; exact h0
          clear h0 HLL HBAD HC hL hwk
          generalize z k = e at a0 a1 a2 a3 a4 a5 hf HCK HQ
          obtain ⟨o, a, b, c, d, kk⟩ := e
          simp only at a0 a1 a2 a3 a4 a5
          simp only [Ins.val] at hf
          go_wp2_with fail
          refine (hf _).mono ?_
          rintro e w2 ⟨rfl, hk2⟩
          have hB2 := bel_next hB hk2
          go_wp2_with fail
          go_ret2
          exact ⟨by rw [HQ.out]; rfl, hB2⟩
      · have hltI : ¬ (k : Int) < len := by omega
        obtain rfl : k = len := by omega
        have HQ := Lib.hid (prP_ok HLN.out HC.out)
        go_wp2_with fail
        go_ret2
        exact ⟨by rw [HQ.out, ← HX.out]; rfl, hB⟩
end Go.Proofs.YtghfkpddkmaflaaDoor
