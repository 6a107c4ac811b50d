/- A bundle of: Spo FrL1 FrL2 FrL3 FrL4 FrL5 FrL6. -/
import Derived.Test.YthdenjokedmcfaaBF
import Derived.Test.YthdenjokedmcfaaBK
import Derived.Deep.DeepCutAuto
import Derived.Test.YthdenjokedmcfaaBS
/- Contract of the reference's Spoil. No condition but those that it names. -/
namespace Go.Proofs.Ythdenjokedmcfaa
open Go.RowKit
set_option maxRecDepth 20000
/-- Block b begins with these bytes. -/
def BRow (w : World) (b : Nat) (l : List UInt8) : Prop := ∃ (C : Array Value) (fz : Nat × Nat), w.heap[b]? = some (.cells C 5 fz) ∧ C.size ≤ fz.1 ∧ l.length ≤ C.size ∧ ∀ (j : Nat) (h : j < l.length), C[j]? = some (.int .u8 (l[j].toNat : Int))
theorem BRow.new (w : World) (s : ByteArray) (cap : Nat) : BRow (w.alloc (.cells (bytesRow s cap) 5 ((bytesRow s cap).size, (bytesRow s cap).size + 1))) w.heap.size s.data.toList := by
  refine ⟨_, _, heap_alloc_new w _, Nat.le_refl _, ?_, fun j h => ?_⟩
  · unfold bytesRow; simp
  · rw [bytesRow_at s cap j (by simpa using h)]
    simp
theorem BRow.cell {w : World} {b : Nat} {l : List UInt8} (h : BRow w b l) {j : Nat} (hj : j < l.length) : w.cell? ⟨b, j, none⟩ = some (.int .u8 (l[j].toNat : Int)) := by
  obtain ⟨C, fz, h1, _, _, h2⟩ := h
  rw [cell_blk h1, h2 j hj]
theorem frozen_blk2 {w : World} {b : Nat} {cs : Array Value} {t : TypeId} {fz : Nat × Nat} (h : w.heap[b]? = some (.cells cs t fz)) {i : Nat} (hi : i < fz.1) : w.frozen? ⟨b, i, none⟩ = false := by
  unfold World.frozen?
  rw [h]
  simp
  omega
theorem BRow.frozen {w : World} {b : Nat} {l : List UInt8} (h : BRow w b l) {j : Nat} (hj : j < l.length) : w.frozen? ⟨b, j, none⟩ = false := by
  obtain ⟨C, fz, h1, h2, h3, _⟩ := h
  exact frozen_blk2 h1 (by omega)
theorem BRow.set {w : World} {b : Nat} {l : List UInt8} (h : BRow w b l) {j : Nat} (u : UInt8) : BRow (w.setCell ⟨b, j, none⟩ (.int .u8 (u.toNat : Int))) b (l.set j u) := by
  obtain ⟨C, fz, h1, h2, h3, h4⟩ := h
  refine ⟨_, fz, blk_setCell h1 _, by simpa using h2, by simpa using h3, fun i hi => ?_⟩
  have hi' : i < l.length := by simpa using hi
  rw [Array.getElem?_setIfInBounds]
  by_cases e : j = i
  · subst e
    rw [if_pos rfl, if_pos (by omega), List.getElem_set_self]
  · rw [if_neg e, h4 i hi', List.getElem_set_ne e]
theorem brow_str {P : Program} {w : World} {src dst e : Nat} {b cap n : Nat} {l : List UInt8} (h : BRow w b l) (hn : n = l.length) (hs : P.underlying src = some (.slice e)) (he : P.underlying e = some (.int .u8)) (hd : P.underlying dst = some .string) :
    (convert src dst (.slice (some ⟨b, 0, none⟩) n cap)).run P w = .ok (.string ⟨l.toArray⟩) w := by
  subst hn
  refine run_convert_bytes_back w src dst e ⟨b, 0, none⟩ cap l hs he hd fun j hj => ?_
  have := h.cell hj
  have e : (⟨b, 0, none⟩ : Addr).add j = ⟨b, j, none⟩ := by
    unfold Addr.add
    split
    · rename_i h0; subst h0; rfl
    · simp
  rw [e]
  exact this
set_option maxHeartbeats 4000000 in
theorem spoil_any (s : ByteArray) (a0 pt0 : Nat) (ha : a0 ≤ 100000) (hp : pt0 < 4294967296) (hs : s.size ≤ 140737488355328) (w : World) :
    Calls Try.prog 31 #[.string s, .int .i64 a0, .int .u32 pt0] w fun e w' => e = .returned (.tuple #[.string ⟨(spo 32 s.data.toList a0 pt0 false).1.toArray⟩, .bool (spo 32 s.data.toList a0 pt0 false).2]) ∧ Below w.heap.size w w' := by
  have hcv := run_bytes_of_string (P := Try.prog) w 9 82 5 s ul_string ul_bytes (by kernel_rfl)
  have hr0 := BRow.new w.drew s (grownCap w s.size 0 5)
  have hB0 := (Below.refl w.heap.size w).drew.alloc (Nat.le_refl _) (.cells (bytesRow s (grownCap w s.size 0 5)) 5 ((bytesRow s (grownCap w s.size 0 5)).size, (bytesRow s (grownCap w s.size 0 5)).size + 1))
  generalize w.drew.alloc (.cells (bytesRow s (grownCap w s.size 0 5)) 5 ((bytesRow s (grownCap w s.size 0 5)).size, (bytesRow s (grownCap w s.size 0 5)).size + 1)) = W0 at hcv hr0 hB0
  generalize grownCap w s.size 0 5 = cap at hcv
  go_enter Try.func31, Try.ntmps31
  go_upto_region 2 with fail
  obtain ⟨b, hb⟩ : ∃ b, b = w.heap.size := ⟨_, rfl⟩
  have hr0 : BRow W0 b s.data.toList := by rw [hb]; exact hr0
  rw [← hb]
  have HB := Lib.hid (Nat.le_of_eq hb.symm)
  clear hb hcv
  have hl0 : s.data.toList.length = s.size := by simp
  have HS := Lib.hid hs
  clear hs
  generalize s.size = n at hl0 HS ⊢
  generalize hL0 : s.data.toList = L0 at hl0 hr0 ⊢
  have HL0 := Lib.hid hL0
  clear hL0
  go_wp2_with fail
  go_loopw [1, 2, 9, 10] (fun xa xp xy xk wr => ∃ (k j pt : Nat) (an : Bool) (l : List UInt8), xa = .int .i64 j ∧ xp = .int .u32 pt ∧ xy = .bool an ∧ xk = .int .i64 k ∧ k ≤ 32 ∧ j = a0 + k ∧ pt < 4294967296 ∧ l.length = n ∧ spo (32 - k) l j pt an = spo 32 L0 a0 pt0 false ∧ BRow wr b l ∧ Below w.heap.size w wr) (fun _ _ _ xk _ => 32 - (intOf xk).toNat)
  case atStart => exact ⟨0, a0, pt0, false, L0, rfl, rfl, rfl, rfl, by omega, rfl, hp, hl0, rfl, hr0, hB0⟩
  case round =>
    clear hr0 hB0 hl0 hp
    obtain ⟨k, j, pt, an, l, rfl, rfl, rfl, rfl, hk, hj, hpt, hl, hsp, hr, hB⟩ := hrel
    have HJ := Lib.hid hj
    have HL := Lib.hid hl
    have HSP := Lib.hid hsp
    have hj2 : j ≤ 100032 := by omega
    clear hj hl hsp
    by_cases hlt : k < 32
    · have hkl : (k : Int) < 32 := by omega
      have hst : spo (32 - k) l j pt an = spo (32 - (k + 1) + 1) l j pt an := by rw [show 32 - (k + 1) + 1 = 32 - k by omega]
      have HST := Lib.hid hst
      clear hst
      obtain ⟨q, hq⟩ : ∃ q : Nat, q = j / 8 := ⟨_, rfl⟩
      have hq8 : ((j : Int) / 8) = ((q : Nat) : Int) := by omega
      have HQ := Lib.hid hq
      clear hq
      have hp2 : IntKind.u32.wrap (pt : Int) = pt := by rw [IntKind.wrap_u32]; omega
      obtain ⟨pq, hpq⟩ : ∃ q : Nat, q = pt / 2 := ⟨_, rfl⟩
      have hpd : ((pt : Int) / 2) = ((pq : Nat) : Int) := by omega
      have hpl : pq < 4294967296 := by omega
      have HPQ := Lib.hid hpq
      clear hpq
      by_cases par : pt % 2 = 1
      · have pa : ((pt : Int) % 2 == 1) = true := by simp; omega
        by_cases hin : q < n
        · have hin' : (q : Int) < n := by omega
          have HP := Lib.hid (And.intro par hin)
          clear par
          obtain ⟨r, hr8⟩ : ∃ q : Nat, q = j % 8 := ⟨_, rfl⟩
          have hrm : ((j : Int) % 8) = ((r : Nat) : Int) := by omega
          have hrl : r < 8 := by omega
          have HR8 := Lib.hid hr8
          clear hr8
          go_wp2_with fail
          go_loopw [11, 12] (fun x i wr2 => ∃ m : Nat, i = .int .i64 m ∧ x = .int .u8 ((2 ^ m : Nat) : Int) ∧ m ≤ r ∧ wr2 = wr) (fun _ i _ => r - (intOf i).toNat)
          case atStart => exact ⟨0, rfl, rfl, by omega, rfl⟩
          case round =>
            obtain ⟨m, rfl, rfl, hm, rfl⟩ := hrel
            by_cases hmr : m < r
            · have hmi : (m : Int) < r := by omega
              have hy : 2 ^ m ≤ 64 := Nat.pow_le_pow_right (n := 2) (by decide) (show m ≤ 6 by omega)
              have HY := Lib.hid (Nat.pow_succ 2 m)
              generalize 2 ^ m = y at hy HY ⊢
              have hw8 : IntKind.u8.wrap ((y : Int) * 2) = (y : Int) * 2 := by rw [IntKind.wrap_u8]; omega
              go_wp2_with fail
              go_roundw
              case rel => exact ⟨m + 1, by go_num, by rw [HY.out]; go_num, by omega, by trivial⟩
              case measure => simp [intOf]; omega
            · obtain rfl : m = r := by omega
              have hy : 2 ^ m ≤ 128 := Nat.pow_le_pow_right (n := 2) (by decide) (show m ≤ 7 by omega)
              obtain ⟨y, hyy⟩ : ∃ y : Nat, y = 2 ^ m := ⟨_, rfl⟩
              rw [← hyy] at hy ⊢
              have HY := Lib.hid hyy
              clear hyy
              have hql : q < l.length := by rw [HL.out]; exact hin
              have hc := hr.cell hql
              have hf := hr.frozen hql
              obtain ⟨u, hu⟩ : ∃ u, u = l[q] := ⟨_, rfl⟩
              rw [← hu] at hc
              have HU := Lib.hid hu
              clear hu
              have hul : u.toNat < 256 := u.toNat_lt
              have hx8 := u8_xor_nat u.toNat y hul (by omega)
              have hst := hr.set (j := q) (u ^^^ UInt8.ofNat y)
              have hun : ((u ^^^ UInt8.ofNat y).toNat : Int) = ((u.toNat ^^^ y : Nat) : Int) := by
                rw [UInt8.toNat_xor]
                have : (UInt8.ofNat y).toNat = y := by rw [UInt8.toNat_ofNat']; exact Nat.mod_eq_of_lt (by omega)
                rw [this]
              rw [hun] at hst
              have HST2 := Lib.hid hst
              clear hst hun
              go_wp2_with fail
              go_roundw
              case rel =>
                refine ⟨k + 1, j + 1, pq, true, l.set q (u ^^^ UInt8.ofNat y), by go_num, rfl, rfl, by go_num, by omega, by have := HJ.out; omega, hpl, by simp [HL.out], ?_, HST2.out, bel_set2 hB _ _ HB.out⟩
                rw [← HSP.out, HST.out, spo, if_pos ⟨HP.out.1, by rw [← HQ.out, HL.out]; exact HP.out.2⟩, ← HPQ.out]
                have hfl : flip l j = l.set q (u ^^^ UInt8.ofNat y) := by
                  unfold flip
                  rw [← HQ.out, ← HR8.out, ← HY.out, HU.out, List.getD_eq_getElem?_getD, List.getElem?_eq_getElem hql]
                  rfl
                rw [hfl]
              case measure => simp [intOf]; omega
        · have hin' : ¬ (q : Int) < n := by omega
          have HP := Lib.hid hin
          clear par
          go_wp2_with fail
          go_roundw
          case rel =>
            refine ⟨k + 1, j + 1, pq, an, l, by go_num, rfl, rfl, by go_num, by omega, by have := HJ.out; omega, hpl, HL.out, ?_, hr, hB⟩
            rw [← HSP.out, HST.out, spo, if_neg (fun h => HP.out (by rw [HQ.out, ← HL.out]; exact h.2)), ← HPQ.out]
          case measure => simp [intOf]; omega
      · have pa : ((pt : Int) % 2 == 1) = false := by simp; omega
        have HP := Lib.hid par
        clear par
        go_wp2_with fail
        go_roundw
        case rel =>
          refine ⟨k + 1, j + 1, pq, an, l, by go_num, rfl, rfl, by go_num, by omega, by have := HJ.out; omega, hpl, HL.out, ?_, hr, hB⟩
          rw [← HSP.out, HST.out, spo, if_neg (fun h => HP.out h.1), ← HPQ.out]
        case measure => simp [intOf]; omega
    · obtain rfl : k = 32 := by omega
      have hcv2 := brow_str (P := Try.prog) (src := 82) (dst := 9) (cap := cap) hr HL.out.symm ul_bytes (by kernel_rfl) ul_string
      have HE : (⟨l.toArray⟩ : ByteArray) = ⟨(spo 32 L0 a0 pt0 false).1.toArray⟩ ∧ an = (spo 32 L0 a0 pt0 false).2 := by rw [← HSP.out]; exact ⟨rfl, rfl⟩
      have HE := Lib.hid HE
      go_wp2_with fail
      go_ret2
      exact ⟨by rw [HL0.out, ← HE.out.1, ← HE.out.2]; rfl, hB⟩
end Go.Proofs.Ythdenjokedmcfaa
/- The walks of the statements of layer 7: FrameReads. -/
namespace Go.Proofs.Ythdenjokedmcfaa
open Go.RowKit
set_option maxRecDepth 20000
theorem rdL_len (s : ByteArray) : ∀ (f cy ct p : Nat), (rdL s f cy ct p).1.length ≤ f
  | 0, _, _, _ => Nat.le_refl _
  | f + 1, cy, ct, p => by
    rw [rdL]
    split
    · split
      · exact Nat.succ_le_succ (rdL_len s f _ _ _)
      · exact Nat.zero_le _
    · exact Nat.zero_le _
theorem frR_bounds (s : ByteArray) (at_ : Int) : (frR s at_).2.1 < 4294967296 ∧ (frR s at_).2.2.1.length ≤ s.size := by
  unfold frR
  split
  · exact ⟨(show (0 : Nat) < 4294967296 by decide), Nat.zero_le _⟩
  · rename_i h
    unfold fRd
    split
    · exact ⟨(show (0 : Nat) < 4294967296 by decide), Nat.zero_le _⟩
    · rename_i hE
      split
      · exact ⟨(show (0 : Nat) < 4294967296 by decide), Nat.zero_le _⟩
      · split
        · exact ⟨(show (0 : Nat) < 4294967296 by decide), Nat.zero_le _⟩
        · split
          · exact ⟨(show (0 : Nat) < 4294967296 by decide), Nat.zero_le _⟩
          · split
            · exact ⟨(show (0 : Nat) < 4294967296 by decide), Nat.zero_le _⟩
            · refine ⟨?_, ?_⟩
              · show (fh1 s at_.toNat).1 < 4294967296
                have h0 : fhE s at_.toNat = 0 := by simpa using hE
                have hag : ¬ agree s at_.toNat ⟨mk.toArray⟩ < 22 := by
                  intro c
                  unfold fhE at h0
                  rw [if_pos c] at h0
                  split at h0 <;> cases h0
                have h2 := (agree_le s at_.toNat (by omega)).2
                have := wrd_le s (at_.toNat + 22) (by omega)
                unfold fh1
                omega
              · refine Nat.le_trans (rdL_len _ _ _ _ _) ?_
                unfold fhP
                rw [ByteArray.size_extract]
                omega
set_option maxHeartbeats 2000000 in
theorem frameReads_law (s : ByteArray) (at_ : Int) (w : World) (hs : s.size ≤ maxLen) (_hat : (Lit.int .i64 at_).wf = true) :
    Calls Try.prog 10 #[.string s, .int .i64 at_] w fun e w' => e = .returned (.bool true) ∧ Below w.heap.size w w' := by
  unfold maxLen at hs
  clear _hat
  have hB0 := Below.refl w.heap.size w
  by_cases hl : s.size ≤ 1000
  · have hd : decide ((1000 : Int) < s.size) = false := by simp; omega
    have hd' : ¬ (1000 : Int) < s.size := by omega
    obtain ⟨hb1, hb2⟩ := frR_bounds s at_
    have hfr := fun x tb h => fread_any x tb h s (by omega) at_
    have hrr := fun x => rfread_any x s (by omega) at_
    generalize frR s at_ = R at hb1 hb2 hfr hrr
    obtain ⟨er, seq, l, nx⟩ := R
    unfold FrPost at hfr hrr
    simp only at hb1 hb2 hfr hrr
    have hll : l.length ≤ 1000000 := by omega
    clear hb2
    go_enter Try.func10, Try.ntmps10
    go_wp2_with fail
    refine (awake7 _).mono ?_
    rintro x w1 ⟨rfl, hk⟩
    have hB1 := hB0.trans (hk.mono hB0.size)
    clear hk hB0
    go_wp2_with fail
    refine (make_any _).mono ?_
    rintro x w2 ⟨rfl, hT, hk⟩
    have hB2 := hB1.trans (hk.mono hB1.size)
    clear hk hB1
    generalize w1.heap.size = tb at hT ⊢
    go_wp2_with fail
    refine (hfr w2 tb hT).mono ?_
    rintro x w3 ⟨ao, cap, rfl, hown, hk⟩
    have hB3 := hB2.trans (hk.mono hB2.size)
    have hs3 := slArgN_own hown
    clear hk hB2 hown hT hfr
    have hal := (Below.refl w3.heap.size w3).alloc (Nat.le_refl _) (.cells #[.int .u32 seq, .slice ao l.length cap] 48)
    have hB4 := hB3.trans (hal.mono hB3.size)
    have hs4 := SlArgN.kept hs3 hal
    have hf4 := heap_alloc_new w3 (.cells #[.int .u32 seq, .slice ao l.length cap] 48)
    go_upto_region 4 with fail
    generalize w3.alloc (.cells #[.int .u32 seq, .slice ao l.length cap] 48) = W4 at hB4 hs4 hf4 ⊢
    generalize w3.heap.size = F at hf4 ⊢
    clear hal hB3 hs3
    go_wp2_with fail
    refine (hrr W4).mono ?_
    rintro x w5 ⟨ao2, cap2, rfl, hown, hk⟩
    have hB5 := hB4.trans (hk.mono hB4.size)
    have hs5 := SlArgN.kept hs4 hk
    have hg5 := slArgN_own hown
    have hf5 := (hk.block F (blk_lt hf4)).trans hf4
    clear hk hB4 hs4 hf4 hown hrr
    have hal := (Below.refl w5.heap.size w5).alloc (Nat.le_refl _) (.cells #[.int .u32 seq, .slice ao2 l.length cap2] 48)
    have hB6 := hB5.trans (hal.mono hB5.size)
    have hs6 := SlArgN.kept hs5 hal
    have hg6 := SlArgN.kept hg5 hal
    have hf6 := (hal.block F (blk_lt hf5)).trans hf5
    have hf7 := heap_alloc_new w5 (.cells #[.int .u32 seq, .slice ao2 l.length cap2] 48)
    go_upto_region 5 with fail
    generalize w5.alloc (.cells #[.int .u32 seq, .slice ao2 l.length cap2] 48) = W6 at hB6 hs6 hg6 hf6 hf7 ⊢
    generalize w5.heap.size = G at hf7 ⊢
    clear hal hB5 hs5 hg5 hf5
    have c0 := cell_blk hf6 0
    have c1 := cell_blk hf6 1
    have d0 := cell_blk hf7 0
    have d1 := cell_blk hf7 1
    simp only [List.getElem?_toArray, List.getElem?_cons_zero, List.getElem?_cons_succ] at c0 c1 d0 d1
    have hsm := rfsame_any W6 seq hb1 _ _ l.length _ _ (fun i => l.getD i default) hs6 hg6 hll
    clear hs6 hg6 hf6 hf7
    go_wp2_with (go_at_call 38; (refine hsm.mono ?_); rintro x0 w9 ⟨rfl, hk9⟩; have hB9 := hB6.trans (hk9.mono hB6.size))
    go_ret
    exact ⟨ret_bool (by simp), hB9⟩
  · have hd : decide ((1000 : Int) < s.size) = true := by simp; omega
    have hd' : (1000 : Int) < s.size := by omega
    clear hl
    go_enter Try.func10, Try.ntmps10
    go_wp2_with (go_at_call 33; (with_reducible refine (awake7 _).mono ?_); rintro x0 w1 ⟨rfl, hk⟩; have hB1 := hB0.trans (hk.mono hB0.size); clear hk)
    go_wp2_with (go_at_call 33; (with_reducible refine (awake7 _).mono ?_); rintro x0 w2 ⟨rfl, hk⟩; have hB2 := hB1.trans (hk.mono hB1.size); clear hk)
    go_ret
    exact ⟨rfl, hB2⟩
end Go.Proofs.Ythdenjokedmcfaa
/- The walks of the statements of layer 7: FrameOne. -/
namespace Go.Proofs.Ythdenjokedmcfaa
open Go.RowKit
set_option maxRecDepth 20000
theorem fRd_err (s : ByteArray) (p : Nat) : (fRd s p).1 ≠ 0 → fRd s p = ((fRd s p).1, 0, [], 0) := by
  unfold fRd
  split
  · intro _; dsimp only
  · split
    · intro _; dsimp only
    · split
      · intro _; dsimp only
      · split
        · intro _; dsimp only
        · split
          · intro _; dsimp only
          · intro h; dsimp only at h; exact absurd rfl h
theorem frR_err (s : ByteArray) (at_ : Int) : (frR s at_).1 ≠ 0 → frR s at_ = ((frR s at_).1, 0, [], 0) := by
  unfold frR
  split
  · intro _; dsimp only
  · exact fRd_err s at_.toNat
theorem frR_spell {s : ByteArray} {at_ : Int} {seq nx : Nat} {l : List Ev} (h : frR s at_ = (0, seq, l, nx)) :
    0 ≤ at_ ∧ at_.toNat ≤ nx ∧ nx ≤ s.size ∧ (∀ i, i < l.length → (l.getD i default).Wf) ∧ frE (fun i => l.getD i default) l.length = 0 ∧ frS seq (fun i => l.getD i default) l.length = (s.extract at_.toNat nx).data.toList := by
  unfold frR at h
  split at h
  · cases h
  · rename_i hat
    exact ⟨by omega, fRd_spell (by omega) h⟩
set_option maxHeartbeats 2000000 in
theorem frameOne_law (s : ByteArray) (at_ : Int) (w : World) (hs : s.size ≤ maxLen) (_hat : (Lit.int .i64 at_).wf = true) :
    Calls Try.prog 12 #[.string s, .int .i64 at_] w fun e w' => e = .returned (.bool true) ∧ Below w.heap.size w w' := by
  unfold maxLen at hs
  clear _hat
  have hB0 := Below.refl w.heap.size w
  by_cases hl : s.size ≤ 1000
  · have hd : decide ((1000 : Int) < s.size) = false := by simp; omega
    have hd' : ¬ (1000 : Int) < s.size := by omega
    obtain ⟨hb1, hb2⟩ := frR_bounds s at_
    have hfr := fun x tb h => fread_any x tb h s (by omega) at_
    have herr := frR_err s at_
    have hsp := fun seq nx l => @frR_spell s at_ seq nx l
    generalize frR s at_ = R at hb1 hb2 hfr herr hsp
    obtain ⟨er, seq, l, nx⟩ := R
    unfold FrPost at hfr
    simp only at hb1 hb2 hfr herr
    have hll : l.length ≤ 100000 := by omega
    clear hb2
    by_cases q : er = 0
    · obtain ⟨r1, r2, r3, r4, r5, r6⟩ := hsp seq nx l (by rw [q])
      have hq0 : (er != 0) = false := by simp [q]
      obtain ⟨p, rfl⟩ : ∃ p : Nat, at_ = p := ⟨at_.toNat, by omega⟩
      simp only [Int.toNat_natCast] at r2 r6
      have hpr := fun x tb h ao cap hs => fprint_any x tb h seq hb1 ao l.length cap (fun i => l.getD i default) hs r4 hll
      have hU : (⟨(frS seq (fun i => l.getD i default) l.length).toArray⟩ : ByteArray) = s.extract p nx := by
        rw [r6]
      rw [hU, r5] at hpr
      have i1 : (0 : Int) ≤ (p : Int) := by omega
      have i2 : (nx : Int) ≤ s.size := by omega
      have i3 : (p : Int) ≤ nx := by omega
      have Q := Lib.hid q
      clear hU r5 r6 r4 r1 herr hsp q
      go_enter Try.func12, Try.ntmps12
      go_wp2_with fail
      refine (awake7 _).mono ?_
      rintro x w1 ⟨rfl, hk⟩
      have hB1 := hB0.trans (hk.mono hB0.size)
      clear hk hB0
      go_wp2_with fail
      refine (make_any _).mono ?_
      rintro x w2 ⟨rfl, hT, hk⟩
      have hB2 := hB1.trans (hk.mono hB1.size)
      clear hk hB1
      generalize w1.heap.size = tb at hT ⊢
      go_wp2_with fail
      refine (hfr w2 tb hT).mono ?_
      rintro x w3 ⟨ao, cap, rfl, hown, hk⟩
      have hB3 := hB2.trans (hk.mono hB2.size)
      have hs3 := slArgN_own hown
      have hT3 := hT.kept hk
      clear hk hB2 hown hT hfr
      have hal := (Below.refl w3.heap.size w3).alloc (Nat.le_refl _) (.cells #[.int .u32 seq, .slice ao l.length cap] 48)
      have hB4 := hB3.trans (hal.mono hB3.size)
      have hs4 := SlArgN.kept hs3 hal
      have hT4 := hT3.kept hal
      have hf4 := heap_alloc_new w3 (.cells #[.int .u32 seq, .slice ao l.length cap] 48)
      go_upto_region 5 with fail
      generalize w3.alloc (.cells #[.int .u32 seq, .slice ao l.length cap] 48) = W4 at hB4 hs4 hT4 hf4 ⊢
      generalize w3.heap.size = F at hf4 ⊢
      clear hal hB3 hs3 hT3
      have c0 := cell_blk hf4 0
      have c1 := cell_blk hf4 1
      simp only [List.getElem?_toArray, List.getElem?_cons_zero, List.getElem?_cons_succ] at c0 c1
      go_wp2_with fail
      refine (hpr W4 tb hT4 ao cap hs4).mono ?_
      rintro x w5 ⟨rfl, hk⟩
      have hB5 := hB4.trans (hk.mono hB4.size)
      clear hk hB4 hs4 hT4 hf4 c0 c1 hpr
      go_wp2_with fail
      go_ret
      exact ⟨ret_bool (by simp), hB5⟩
    · have hq0 : (er != 0) = true := by simp [q]
      have he := herr q
      simp only [Prod.mk.injEq, true_and] at he
      obtain ⟨rfl, rfl, rfl⟩ := he
      simp only [List.length_nil] at hfr
      clear herr hsp q
      go_enter Try.func12, Try.ntmps12
      go_wp2_with fail
      refine (awake7 _).mono ?_
      rintro x w1 ⟨rfl, hk⟩
      have hB1 := hB0.trans (hk.mono hB0.size)
      clear hk hB0
      go_wp2_with fail
      refine (make_any _).mono ?_
      rintro x w2 ⟨rfl, hT, hk⟩
      have hB2 := hB1.trans (hk.mono hB1.size)
      clear hk hB1
      generalize w1.heap.size = tb at hT ⊢
      go_wp2_with fail
      refine (hfr w2 tb hT).mono ?_
      rintro x w3 ⟨ao, cap, rfl, hown, hk⟩
      have hB3 := hB2.trans (hk.mono hB2.size)
      clear hk hB2 hown hT hfr
      have hal := (Below.refl w3.heap.size w3).alloc (Nat.le_refl _) (.cells #[.int .u32 (0 : Nat), .slice ao 0 cap] 48)
      have hB4 := hB3.trans (hal.mono hB3.size)
      have hf4 := heap_alloc_new w3 (.cells #[.int .u32 (0 : Nat), .slice ao 0 cap] 48)
      go_upto_region 5 with fail
      have c0 := cell_blk hf4 0
      have c1 := cell_blk hf4 1
      simp only [List.getElem?_toArray, List.getElem?_cons_zero, List.getElem?_cons_succ] at c0 c1
      go_wp2_with fail
      go_ret
      exact ⟨rfl, hB4⟩
  · have hd : decide ((1000 : Int) < s.size) = true := by simp; omega
    have hd' : (1000 : Int) < s.size := by omega
    clear hl
    go_enter Try.func12, Try.ntmps12
    go_wp2_with (go_at_call 33; (with_reducible refine (awake7 _).mono ?_); rintro x0 w1 ⟨rfl, hk⟩; have hB1 := hB0.trans (hk.mono hB0.size); clear hk)
    go_wp2_with (go_at_call 33; (with_reducible refine (awake7 _).mono ?_); rintro x0 w2 ⟨rfl, hk⟩; have hB2 := hB1.trans (hk.mono hB1.size); clear hk)
    go_ret
    exact ⟨rfl, hB2⟩
end Go.Proofs.Ythdenjokedmcfaa
/- The walks of the statements of layer 7: FrameCut, FrameBack, FrameNil. (Printed by gen_frl3.py.) -/
namespace Go.Proofs.Ythdenjokedmcfaa
open Go.RowKit
set_option maxRecDepth 20000
theorem fprint_nil (w : World) (v : Value) (seq : Nat) (oa : Option Addr) (len cap : Nat) (hv : v = .agg #[.int .u32 seq, .slice oa len cap]) : Calls Try.prog 34 #[.pointer none, v] w fun x w' => x = .returned (.tuple #[.string ⟨#[]⟩, .int .i64 16]) ∧ Below w.heap.size w w' := by
  subst hv
  go_enter Try.func34, Try.ntmps34
  go_wp2_with fail
  go_ret2
  exact ⟨rfl, (Below.refl w.heap.size w).alloc (Nat.le_refl _) _⟩
theorem fread_nil (w : World) (s : Value) (n : Value) : Calls Try.prog 36 #[.pointer none, s, n] w fun x w' => x = .returned (.tuple #[.agg #[.int .u32 0, .slice none 0 0], .int .i64 0, .int .i64 16]) ∧ Below w.heap.size w w' := by
  have st0 : QSt w w.heap.size (w.alloc (.cells #[.int .u32 0, .slice none 0 0] 48)) :=
    { bel := (Below.refl w.heap.size w).alloc (Nat.le_refl _) _
      fb := heap_alloc_new w _
      lo := Nat.le_refl _ }
  go_enter Try.func36, Try.ntmps36
  go_upto_region 1 with fail
  generalize w.alloc (.cells #[.int .u32 0, .slice none 0 0] 48) = W0 at st0 ⊢
  obtain ⟨FB, hFB⟩ : ∃ FB, FB = w.heap.size := ⟨_, rfl⟩
  rw [← hFB] at st0 ⊢
  clear hFB
  obtain ⟨y0, y1⟩ := st0.cells
  have yf0 := frozen_blk st0.fb 0
  have yf1 := frozen_blk st0.fb 1
  go_wp2_with fail
  exact bodyPost_ret (v := .tuple #[.agg #[.int .u32 0, .slice none 0 0], .int .i64 0, .int .i64 16]) (by simp [results, Try.results36, go_sem, y0, y1]) rfl ⟨rfl, bel_set3 (bel_set3 st0.bel _ _ st0.lo) _ _ st0.lo⟩
theorem empty_b (l : List UInt8) (h : l = []) : (⟨l.toArray⟩ : ByteArray) = ⟨#[]⟩ := by rw [h]
/-- The frame boxed. -/
structure BSt (w : World) (f : FrV) (F : Nat) (wr : World) : Prop where
  bel : Below w.heap.size w wr
  fb : wr.heap[F]? = some (.cells #[.int .u32 f.seq, .slice f.oa f.len f.cap] 48 (0, 0))
  sl : SlArgN wr f.oa f.len f.cap 6 (fun i j => (f.z i).f j)
theorem BSt.below {w : World} {f : FrV} {F : Nat} {wr w2 : World} (h : BSt w f F wr) (k : Below wr.heap.size wr w2) : BSt w f F w2 :=
  { bel := h.bel.trans (k.mono h.bel.size), fb := (k.block _ (blk_lt h.fb)).trans h.fb, sl := h.sl.kept k }
theorem BSt.cells {w : World} {f : FrV} {F : Nat} {wr : World} (h : BSt w f F wr) : wr.cell? ⟨F, 0, none⟩ = some (.int .u32 f.seq) ∧ wr.cell? ⟨F, 1, none⟩ = some (.slice f.oa f.len f.cap) := by
  refine ⟨?_, ?_⟩ <;> (rw [cell_blk h.fb]; rfl)
theorem BSt.ok {w : World} {f : FrV} {F : Nat} {wr : World} (h : BSt w f F wr) (ho : f.Ok w) : f.Ok wr := { ho with sl := h.sl }
theorem BSt.start {w : World} {f : FrV} (ho : f.Ok w) : BSt w f w.heap.size (w.alloc (.cells #[.int .u32 f.seq, .slice f.oa f.len f.cap] 48)) :=
  { bel := (Below.refl w.heap.size w).alloc (Nat.le_refl _) _, fb := heap_alloc_new w _, sl := ho.sl.kept ((Below.refl w.heap.size w).alloc (Nat.le_refl _) _) }
set_option maxHeartbeats 4000000 in
theorem frameCut_law (f : FrV) (n : Int) (w : World) (ho : f.Ok w) (_hn : (Lit.int .i64 n).wf = true) :
    Calls Try.prog 13 #[f.val, .int .i64 n] w fun e w' => e = .returned (.bool true) ∧ Below w.heap.size w w' := by
  obtain ⟨seq, oa, len, cap, z⟩ := f
  have HO := Lib.hid ho
  have st0 := BSt.start ho
  unfold FrV.val
  simp only at st0 ⊢
  have hcl := ho.sl.1
  simp only at hcl
  clear ho
  clear _hn
  by_cases hl : len ≤ 100
  · have hd : decide ((100 : Int) < len) = false := by simp; omega
    have hd' : ¬ (100 : Int) < len := by omega
    go_enter Try.func13, Try.ntmps13
    go_wp2_with fail
    generalize w.alloc (.cells #[.int .u32 seq, .slice oa len cap] 48) = W0 at st0 ⊢
    generalize w.heap.size = F at st0 ⊢
    refine (awake7 _).mono ?_
    rintro x w1 ⟨rfl, hk⟩
    have st1 := st0.below hk
    clear hk st0
    obtain ⟨y0, y1⟩ := st1.cells
    go_wp2_with fail
    refine (make_any _).mono ?_
    rintro x w2 ⟨rfl, hT, hk⟩
    have st2 := st1.below hk
    clear hk st1 y0 y1
    generalize w1.heap.size = tb at hT ⊢
    obtain ⟨y0, y1⟩ := st2.cells
    go_wp2_with fail
    refine (fown_any w2 ⟨seq, oa, len, cap, z⟩ (st2.ok HO.out) (by exact hl)).mono ?_
    rintro x w3 ⟨ao, cap3, rfl, hs3, hk⟩
    have st3 := st2.below hk
    have hT3 := hT.kept hk
    clear hk st2 y0 y1 hT
    go_wp2_with fail
    refine (fprint_any w3 tb hT3 seq HO.out.seq ao len cap3 z hs3 HO.out.wf (by omega)).mono ?_
    rintro x w4 ⟨rfl, hk⟩
    have st4 := st3.below hk
    have hT4 := hT3.kept hk
    clear hk st3 hT3 hs3
    have hcut := fun m => @fr_cut ((⟨(frS seq z len).toArray⟩ : ByteArray).extract 0 m) seq len m z
    have hB : frE z len = 0 → frS seq z len = frB seq z len := fun h => by unfold frS; rw [if_pos h]
    have hsz : (⟨(frS seq z len).toArray⟩ : ByteArray).size = (frS seq z len).length := by show (List.toArray _).size = _; simp
    have hex : ∀ m, ((⟨(frS seq z len).toArray⟩ : ByteArray).extract 0 m).data.toList = (frS seq z len).take m := fun m => by
      rw [ext_take]; simp
    have hfl : (frS seq z len).length ≤ 1000 := by
      unfold frS
      split
      · rename_i h
        rw [frB_len]
        have := (frE_zero h).2.2
        omega
      · simp
    have HC := Lib.hid (fun m (h : frE z len = 0) (hm : m < (frS seq z len).length) => hcut m h HO.out.wf HO.out.seq (by rw [← hB h]; exact hm) (by rw [hex m, hB h]))
    clear hcut hB hex
    rw [← hsz] at hfl
    generalize (frS seq z len) = L at hsz hfl HC ⊢
    generalize frE z len = E at HC ⊢
    generalize (⟨L.toArray⟩ : ByteArray) = S at hsz hfl HC ⊢
    by_cases q : E = 0
    · have q0 : (E != 0) = false := by simp [q]
      by_cases n0 : n < 0
      · clear q
        go_wp2_with fail
        go_ret
        exact ⟨rfl, st4.bel⟩
      · by_cases n1 : (S.size : Int) ≤ n
        · clear q
          go_wp2_with fail
          go_ret
          exact ⟨rfl, st4.bel⟩
        · obtain ⟨m, rfl⟩ : ∃ m : Nat, n = m := ⟨n.toNat, by omega⟩
          have hc := HC.out m q (by omega)
          have hrd := fread_any w4 tb hT4 (S.extract 0 m) (by rw [ByteArray.size_extract]; omega) 0
          rw [hc] at hrd
          have hm1 : (m : Int) ≤ S.size := by omega
          clear q hc HC
          go_wp2_with fail
          refine hrd.mono ?_
          unfold FrPost
          rintro x w5 ⟨ao5, cap5, rfl, _, hk⟩
          have st5 := st4.below hk
          have hB6 := st5.bel.alloc st5.bel.size (.cells #[.int .u32 (0 : Nat), .slice ao5 0 cap5] 48)
          clear hk hrd
          simp only [List.length_nil]
          go_wp2_with fail
          go_ret
          exact ⟨rfl, hB6⟩
    · have q0 : (E != 0) = true := by simp [q]
      clear q
      go_wp2_with fail
      go_ret
      exact ⟨rfl, st4.bel⟩
  · have hd : decide ((100 : Int) < len) = true := by simp; omega
    have hd' : (100 : Int) < len := by omega
    clear hl
    go_enter Try.func13, Try.ntmps13
    go_wp2_with fail
    generalize w.alloc (.cells #[.int .u32 seq, .slice oa len cap] 48) = W0 at st0 ⊢
    generalize w.heap.size = F at st0 ⊢
    refine (awake7 _).mono ?_
    rintro x w1 ⟨rfl, hk⟩
    have st1 := st0.below hk
    clear hk st0
    obtain ⟨y0, y1⟩ := st1.cells
    go_wp2_with (go_at_call 33; (refine (awake7 _).mono ?_); rintro x0 w2 ⟨rfl, hk⟩; have st2 := st1.below hk)
    go_ret
    exact ⟨rfl, st2.bel⟩
end Go.Proofs.Ythdenjokedmcfaa
/- The walks of the statements of layer 7: FrameBack, FrameNil. (Printed by gen_frl3.py.) -/
namespace Go.Proofs.Ythdenjokedmcfaa
open Go.RowKit
set_option maxRecDepth 20000
set_option maxHeartbeats 4000000 in
theorem frameNil_law (f : FrV) (s : ByteArray) (n : Int) (w : World) (ho : f.Ok w) (_hs : s.size ≤ maxLen) (_hn : (Lit.int .i64 n).wf = true) :
    Calls Try.prog 16 #[f.val, .string s, .int .i64 n] w fun e w' => e = .returned (.bool true) ∧ Below w.heap.size w w' := by
  obtain ⟨seq, oa, len, cap, z⟩ := f
  have HO := Lib.hid ho
  have st0 := BSt.start ho
  unfold FrV.val
  simp only at st0 ⊢
  have hcl := ho.sl.1
  simp only at hcl
  clear ho
  clear _hn _hs
  by_cases hl : len ≤ 100
  · have hd : decide ((100 : Int) < len) = false := by simp; omega
    have hd' : ¬ (100 : Int) < len := by omega
    go_enter Try.func16, Try.ntmps16
    go_wp2_with fail
    generalize w.alloc (.cells #[.int .u32 seq, .slice oa len cap] 48) = W0 at st0 ⊢
    generalize w.heap.size = F at st0 ⊢
    refine (awake7 _).mono ?_
    rintro x w1 ⟨rfl, hk⟩
    have st1 := st0.below hk
    clear hk st0
    obtain ⟨y0, y1⟩ := st1.cells
    go_wp2_with fail
    refine (fown_any w1 ⟨seq, oa, len, cap, z⟩ (st1.ok HO.out) (by exact hl)).mono ?_
    rintro x w3 ⟨ao, cap3, rfl, hs3, hk⟩
    have st3 := st1.below hk
    clear hk st1 y0 y1 hs3
    go_wp2_with fail
    refine (fprint_nil w3 _ seq ao len cap3 rfl).mono ?_
    rintro x w4 ⟨rfl, hk⟩
    have st4 := st3.below hk
    clear hk st3
    go_wp2_with fail
    refine (fread_nil w4 _ _).mono ?_
    rintro x w5 ⟨rfl, hk⟩
    have st5 := st4.below hk
    have hf6 := heap_alloc_new w5 (.cells #[.int .u32 0, .slice none 0 0] 48)
    have hB6 := st5.bel.alloc st5.bel.size (.cells #[.int .u32 0, .slice none 0 0] 48)
    clear hk st4
    have c0 := cell_blk hf6 0
    have c1 := cell_blk hf6 1
    simp only [List.getElem?_toArray, List.getElem?_cons_zero, List.getElem?_cons_succ] at c0 c1
    go_wp2_with fail
    go_ret
    exact ⟨rfl, hB6⟩
  · have hd : decide ((100 : Int) < len) = true := by simp; omega
    have hd' : (100 : Int) < len := by omega
    clear hl
    go_enter Try.func16, Try.ntmps16
    go_wp2_with fail
    generalize w.alloc (.cells #[.int .u32 seq, .slice oa len cap] 48) = W0 at st0 ⊢
    generalize w.heap.size = F at st0 ⊢
    refine (awake7 _).mono ?_
    rintro x w1 ⟨rfl, hk⟩
    have st1 := st0.below hk
    clear hk st0
    obtain ⟨y0, y1⟩ := st1.cells
    go_wp2_with (go_at_call 33; (refine (awake7 _).mono ?_); rintro x0 w2 ⟨rfl, hk⟩; have st2 := st1.below hk)
    go_ret
    exact ⟨rfl, st2.bel⟩
set_option maxHeartbeats 4000000 in
theorem frameBack_law (f : FrV) (ah be : ByteArray) (w : World) (ho : f.Ok w) (ha : ah.size ≤ maxLen) (hb : be.size ≤ maxLen) :
    Calls Try.prog 11 #[f.val, .string ah, .string be] w fun e w' => e = .returned (.bool true) ∧ Below w.heap.size w w' := by
  obtain ⟨seq, oa, len, cap, z⟩ := f
  have HO := Lib.hid ho
  have st0 := BSt.start ho
  unfold FrV.val
  simp only at st0 ⊢
  have hcl := ho.sl.1
  simp only at hcl
  clear ho
  unfold maxLen at ha hb
  by_cases hl : len ≤ 100
  · have hd : decide ((100 : Int) < len) = false := by simp; omega
    have hd' : ¬ (100 : Int) < len := by omega
    by_cases la : ah.size ≤ 200
    · by_cases lb : be.size ≤ 200
      · have da : ¬ (200 : Int) < ah.size := by omega
        have db : ¬ (200 : Int) < be.size := by omega
        go_enter Try.func11, Try.ntmps11
        go_wp2_with fail
        generalize w.alloc (.cells #[.int .u32 seq, .slice oa len cap] 48) = W0 at st0 ⊢
        generalize w.heap.size = F at st0 ⊢
        refine (awake7 _).mono ?_
        rintro x w1 ⟨rfl, hk⟩
        have st1 := st0.below hk
        clear hk st0
        obtain ⟨y0, y1⟩ := st1.cells
        go_wp2_with fail
        refine (make_any _).mono ?_
        rintro x w2 ⟨rfl, hT, hk⟩
        have st2 := st1.below hk
        clear hk st1 y0 y1
        generalize w1.heap.size = tb at hT ⊢
        obtain ⟨y0, y1⟩ := st2.cells
        go_wp2_with fail
        refine (fown_any w2 ⟨seq, oa, len, cap, z⟩ (st2.ok HO.out) (by exact hl)).mono ?_
        rintro x w3 ⟨ao, cap3, rfl, hs3, hk⟩
        have st3 := st2.below hk
        have hT3 := hT.kept hk
        clear hk st2 y0 y1 hT
        go_wp2_with fail
        refine (fprint_any w3 tb hT3 seq HO.out.seq ao len cap3 z hs3 HO.out.wf (by omega)).mono ?_
        rintro x w4 ⟨rfl, hk⟩
        have st4 := st3.below hk
        have hT4 := hT3.kept hk
        clear hk st3 hT3 hs3
        have hB : frE z len = 0 → frS seq z len = frB seq z len := fun h => by unfold frS; rw [if_pos h]
        have hsz : (⟨(frS seq z len).toArray⟩ : ByteArray).size = (frS seq z len).length := by show (List.toArray _).size = _; simp
        have hfl : (frS seq z len).length ≤ 1000 := by
          unfold frS
          split
          · rename_i h
            rw [frB_len]
            have := (frE_zero h).2.2
            omega
          · simp
        have hbk : frE z len = 0 → frR (ah ++ (⟨(frS seq z len).toArray⟩ : ByteArray) ++ be) (ah.size : Int) = (0, seq, (List.range len).map z, ah.size + (⟨(frS seq z len).toArray⟩ : ByteArray).size) := fun h => by
          have hd : (ah ++ (⟨(frS seq z len).toArray⟩ : ByteArray) ++ be).data.toList.drop ah.size = frB seq z len ++ be.data.toList := by
            rw [ByteArray.data_append, ByteArray.data_append, Array.toList_append, Array.toList_append, List.append_assoc, List.drop_append_of_le_length (by simp), show ah.size = ah.data.toList.length by simp, List.drop_length, List.nil_append, hB h]
          have := frR_back h HO.out.wf HO.out.seq hd (by rw [ByteArray.size_append, ByteArray.size_append]; omega)
          rw [this, hsz, hB h]
        have HBK := Lib.hid hbk
        clear hbk hB
        rw [← hsz] at hfl
        generalize (frS seq z len) = L at hsz hfl HBK ⊢
        generalize frE z len = E at HBK ⊢
        generalize (⟨L.toArray⟩ : ByteArray) = S at hsz hfl HBK ⊢
        clear hsz
        by_cases q : E = 0
        · have q0 : (E != 0) = false := by simp [q]
          have hrd := fread_any w4 tb hT4 (ah ++ S ++ be) (by rw [ByteArray.size_append, ByteArray.size_append]; omega) (ah.size : Int)
          rw [HBK.out q] at hrd
          unfold FrPost at hrd
          simp only at hrd
          have hll : ((List.range len).map z).length = len := by simp
          generalize hLL : (List.range len).map z = LL at hrd hll
          clear q HBK
          go_wp2_with fail
          refine hrd.mono ?_
          rintro x w5 ⟨ao5, cap5, rfl, hown, hk⟩
          rw [hll] at hown ⊢
          rw [← hLL] at hown
          have hg5 := evs_own hown rfl
          have st5 := st4.below hk
          clear hk hrd hown hLL hll st4
          have hal := (Below.refl w5.heap.size w5).alloc (Nat.le_refl _) (.cells #[.int .u32 seq, .slice ao5 len cap5] 48)
          have st6 := st5.below hal
          have hg6 := hg5.kept hal
          have hf6 := heap_alloc_new w5 (.cells #[.int .u32 seq, .slice ao5 len cap5] 48)
          go_upto_region 8 with fail
          generalize w5.alloc (.cells #[.int .u32 seq, .slice ao5 len cap5] 48) = W6 at st6 hg6 hf6 ⊢
          generalize w5.heap.size = G at hf6 ⊢
          clear hal st5 hg5
          obtain ⟨y0, y1⟩ := st6.cells
          have d0 := cell_blk hf6 0
          have d1 := cell_blk hf6 1
          simp only [List.getElem?_toArray, List.getElem?_cons_zero, List.getElem?_cons_succ] at d0 d1
          have hsm := rfsame_any W6 seq HO.out.seq oa ao5 len cap cap5 z (by exact st6.sl) hg6 (by omega)
          simp only at y0 y1
          go_wp2_with (go_at_call 38; (refine hsm.mono ?_); rintro x0 w9 ⟨rfl, hk9⟩; have st9 := st6.below hk9)
          go_ret
          exact ⟨ret_bool (by simp), st9.bel⟩
        · have q0 : (E != 0) = true := by simp [q]
          clear q
          go_wp2_with fail
          go_ret
          exact ⟨rfl, st4.bel⟩
      · have da : ¬ (200 : Int) < ah.size := by omega
        have db : (200 : Int) < be.size := by omega
        go_enter Try.func11, Try.ntmps11
        go_wp2_with fail
        generalize w.alloc (.cells #[.int .u32 seq, .slice oa len cap] 48) = W0 at st0 ⊢
        generalize w.heap.size = F at st0 ⊢
        refine (awake7 _).mono ?_
        rintro x w1 ⟨rfl, hk⟩
        have st1 := st0.below hk
        clear hk st0
        obtain ⟨y0, y1⟩ := st1.cells
        go_wp2_with (go_at_call 33; (refine (awake7 _).mono ?_); rintro x0 w2 ⟨rfl, hk⟩; have st2 := st1.below hk)
        go_ret
        exact ⟨rfl, st2.bel⟩
    · have da : (200 : Int) < ah.size := by omega
      go_enter Try.func11, Try.ntmps11
      go_wp2_with fail
      generalize w.alloc (.cells #[.int .u32 seq, .slice oa len cap] 48) = W0 at st0 ⊢
      generalize w.heap.size = F at st0 ⊢
      refine (awake7 _).mono ?_
      rintro x w1 ⟨rfl, hk⟩
      have st1 := st0.below hk
      clear hk st0
      obtain ⟨y0, y1⟩ := st1.cells
      go_wp2_with (go_at_call 33; (refine (awake7 _).mono ?_); rintro x0 w2 ⟨rfl, hk⟩; have st2 := st1.below hk)
      go_ret
      exact ⟨rfl, st2.bel⟩
  · have hd : decide ((100 : Int) < len) = true := by simp; omega
    have hd' : (100 : Int) < len := by omega
    clear hl
    go_enter Try.func11, Try.ntmps11
    go_wp2_with fail
    generalize w.alloc (.cells #[.int .u32 seq, .slice oa len cap] 48) = W0 at st0 ⊢
    generalize w.heap.size = F at st0 ⊢
    refine (awake7 _).mono ?_
    rintro x w1 ⟨rfl, hk⟩
    have st1 := st0.below hk
    clear hk st0
    obtain ⟨y0, y1⟩ := st1.cells
    go_wp2_with (go_at_call 33; (refine (awake7 _).mono ?_); rintro x0 w2 ⟨rfl, hk⟩; have st2 := st1.below hk)
    go_ret
    exact ⟨rfl, st2.bel⟩
end Go.Proofs.Ythdenjokedmcfaa
/- The walk of the statement of layer 7: FramePrints. (Printed by gen_frl3.py.) -/
namespace Go.Proofs.Ythdenjokedmcfaa
open Go.RowKit
set_option maxRecDepth 20000
set_option maxHeartbeats 4000000 in
theorem framePrints_law (f : FrV) (w : World) (ho : f.Ok w) :
    Calls Try.prog 9 #[f.val] w fun e w' => e = .returned (.bool true) ∧ Below w.heap.size w w' := by
  obtain ⟨seq, oa, len, cap, z⟩ := f
  have HO := Lib.hid ho
  have st0 := BSt.start ho
  unfold FrV.val
  simp only at st0 ⊢
  have hcl := ho.sl.1
  simp only at hcl
  clear ho
  by_cases hl : len ≤ 100
  · have hd : decide ((100 : Int) < len) = false := by simp; omega
    have hd' : ¬ (100 : Int) < len := by omega
    go_enter Try.func9, Try.ntmps9
    go_wp2_with fail
    generalize w.alloc (.cells #[.int .u32 seq, .slice oa len cap] 48) = W0 at st0 ⊢
    generalize w.heap.size = F at st0 ⊢
    refine (awake7 _).mono ?_
    rintro x w1 ⟨rfl, hk⟩
    have st1 := st0.below hk
    clear hk st0
    obtain ⟨y0, y1⟩ := st1.cells
    go_upto_region 3 with fail
    clear y0 y1
    have st1 := st1.below ((Below.refl _ _).drew)
    have HK1 : w1.drew.cell? ⟨F, 0, none⟩ = some (.int .u32 seq) ∧ w1.drew.cell? ⟨F, 1, none⟩ = some (.slice oa len cap) := st1.cells
    go_cut [3, 4] (fun s e wx => s = .string ⟨(frS seq z len).toArray⟩ ∧ e = .int .i64 (frE z len) ∧ BSt w ⟨seq, oa, len, cap, z⟩ F wx)
    case first =>
      go_region_held (fun w' => w'.cell? ⟨F, 0, none⟩ = some (.int .u32 seq) ∧ w'.cell? ⟨F, 1, none⟩ = some (.slice oa len cap)) (first | exact HK1 | exact HK2 | exact HK3 | exact HK4) (first | (go_at_call 18; (refine (make_any _).mono ?_); rintro x w2 ⟨rfl, hT, hk2⟩; have st2 := st1.below hk2; have HK2 : w2.cell? ⟨F, 0, none⟩ = some (.int .u32 seq) ∧ w2.cell? ⟨F, 1, none⟩ = some (.slice oa len cap) := st2.cells) | (go_at_call 35; (refine (fown_any w2 ⟨seq, oa, len, cap, z⟩ (st2.ok HO.out) (by exact hl)).mono ?_); rintro x w3 ⟨ao, cap3, rfl, hs3, hk3⟩; have st3 := st2.below hk3; have hT3 := hT.kept hk3; have HK3 : w3.cell? ⟨F, 0, none⟩ = some (.int .u32 seq) ∧ w3.cell? ⟨F, 1, none⟩ = some (.slice oa len cap) := st3.cells) | (go_at_call 34; (refine (fprint_any w3 _ hT3 seq HO.out.seq ao len cap3 z hs3 HO.out.wf (by omega)).mono ?_); rintro x w4 ⟨rfl, hk4⟩; have st4 := st3.below hk4; have HK4 : w4.cell? ⟨F, 0, none⟩ = some (.int .u32 seq) ∧ w4.cell? ⟨F, 1, none⟩ = some (.slice oa len cap) := st4.cells))
      all_goals (go_wp2_with fail; go_meet; exact ⟨rfl, rfl, st4⟩)
    case rest =>
      obtain ⟨rfl, rfl, st4⟩ := hcut
      clear HK1 st1
      have hsz : (⟨(frS seq z len).toArray⟩ : ByteArray).size = (frS seq z len).length := by show (List.toArray _).size = _; simp
      have hfl : (frS seq z len).length ≤ 179 := by
        unfold frS
        split
        · rename_i h
          rw [frB_len]
          have := (frE_zero h).2.2
          omega
        · simp
      rw [← hsz] at hfl
      have hrp := rfprint_any wc seq HO.out.seq oa len cap z (by exact st4.sl) HO.out.wf (by omega)
      generalize frE z len = E at hrp ⊢
      generalize frS seq z len = L at hrp hsz hfl ⊢
      generalize (⟨L.toArray⟩ : ByteArray) = S at hrp hsz hfl ⊢
      clear hsz
      obtain ⟨y0, y1⟩ := st4.cells
      go_wp2_with fail
      refine hrp.mono ?_
      rintro x w5 ⟨rfl, hk⟩
      have st5 := st4.below hk
      clear hk hrp st4 y0 y1
      have hfi : (S.size : Int) ≤ 179 := by omega
      go_wp2_with fail
      go_ret
      exact ⟨rfl, st5.bel⟩
  · have hd : decide ((100 : Int) < len) = true := by simp; omega
    have hd' : (100 : Int) < len := by omega
    clear hl
    go_enter Try.func9, Try.ntmps9
    go_wp2_with fail
    generalize w.alloc (.cells #[.int .u32 seq, .slice oa len cap] 48) = W0 at st0 ⊢
    generalize w.heap.size = F at st0 ⊢
    refine (awake7 _).mono ?_
    rintro x w1 ⟨rfl, hk⟩
    have st1 := st0.below hk
    clear hk st0
    obtain ⟨y0, y1⟩ := st1.cells
    go_wp2_with (go_at_call 33; (refine (awake7 _).mono ?_); rintro x0 w2 ⟨rfl, hk⟩; have st2 := st1.below hk)
    go_ret
    exact ⟨rfl, st2.bel⟩
end Go.Proofs.Ythdenjokedmcfaa
/- The walk of the statement of layer 7: FrameBurst. (Printed by gen_frl3.py.) -/
namespace Go.Proofs.Ythdenjokedmcfaa
open Go.RowKit
set_option maxRecDepth 20000
theorem ba_of {s : ByteArray} {l : List UInt8} (h : l = s.data.toList) : (⟨l.toArray⟩ : ByteArray) = s := by subst h; simp
/-- A burst, and what is read behind it. -/
theorem burst_law {seq n a pt : Nat} {z : Nat → Ev} (hE : frE z n = 0) (hw : ∀ i, i < n → (z i).Wf) (hseq : seq < 4294967296) {S : ByteArray} (hS : S.data.toList = frB seq z n) :
    (((frR ⟨(spo 32 S.data.toList a pt false).1.toArray⟩ 0).1 == 0) = !(spo 32 S.data.toList a pt false).2) := by
  have hlen := spo_len 32 S.data.toList a pt false
  have hnear := spo_near 32 S.data.toList a pt false
  have hany := spo_any 32 S.data.toList a pt false
  generalize spo 32 S.data.toList a pt false = r at hlen hnear hany ⊢
  obtain ⟨l, an⟩ := r
  simp only at hlen hnear hany ⊢
  rcases hany with ⟨h1, h2⟩ | ⟨h1, h2⟩
  · subst h1
    rw [ba_of h2]
    have := frR_back (s := S) (p := 0) (post := []) hE hw hseq (by rw [List.drop_zero, hS, List.append_nil]) (Nat.zero_le _)
    rw [show (0 : Int) = ((0 : Nat) : Int) from rfl, this]
    rfl
  · subst h1
    have hne : (frR ⟨l.toArray⟩ 0).1 ≠ 0 := by
      intro h
      refine h2 ?_
      rw [hS]
      have h0 : frR ⟨l.toArray⟩ 0 = (0, (frR ⟨l.toArray⟩ 0).2.1, (frR ⟨l.toArray⟩ 0).2.2.1, (frR ⟨l.toArray⟩ 0).2.2.2) := by
        generalize frR ⟨l.toArray⟩ 0 = r at h ⊢
        obtain ⟨r1, r2, r3, r4⟩ := r
        simp only at h
        rw [h]
      have hsz : (⟨l.toArray⟩ : ByteArray).size = l.length := by show (List.toArray _).size = _; simp
      exact fr_burst (s := ⟨l.toArray⟩) (a := a) hE (by rw [hsz, hlen, hS]) (fun j hj => by
        show _ = bitL l j
        rw [hnear j hj, hS]) h0
    cases hb : ((frR ⟨l.toArray⟩ 0).1 == 0) with
    | false => rfl
    | true => exact absurd (by simpa using hb) hne
set_option maxHeartbeats 4000000 in
theorem frameBurst_law (f : FrV) (n : Int) (p : Int) (w : World) (ho : f.Ok w) (_hn : (Lit.int .i64 n).wf = true) (hp : (Lit.int .u32 p).wf = true) :
    Calls Try.prog 14 #[f.val, .int .i64 n, .int .u32 p] w fun e w' => e = .returned (.bool true) ∧ Below w.heap.size w w' := by
  obtain ⟨seq, oa, len, cap, z⟩ := f
  have HO := Lib.hid ho
  have st0 := BSt.start ho
  unfold FrV.val
  simp only at st0 ⊢
  have hcl := ho.sl.1
  simp only at hcl
  clear ho
  clear _hn
  obtain ⟨pt, rfl, hpt⟩ := u32_of hp
  clear hp
  by_cases hl : len ≤ 100
  · have hd : decide ((100 : Int) < len) = false := by simp; omega
    have hd' : ¬ (100 : Int) < len := by omega
    by_cases n0 : n < 0
    · clear hl
      go_enter Try.func14, Try.ntmps14
      go_wp2_with fail
      generalize w.alloc (.cells #[.int .u32 seq, .slice oa len cap] 48) = W0 at st0 ⊢
      generalize w.heap.size = F at st0 ⊢
      refine (awake7 _).mono ?_
      rintro x w1 ⟨rfl, hk⟩
      have st1 := st0.below hk
      clear hk st0
      obtain ⟨y0, y1⟩ := st1.cells
      go_wp2_with (go_at_call 33; (refine (awake7 _).mono ?_); rintro x0 w2 ⟨rfl, hk⟩; have st2 := st1.below hk)
      go_ret
      exact ⟨rfl, st2.bel⟩
    · by_cases n1 : 2000 < n
      · clear hl
        go_enter Try.func14, Try.ntmps14
        go_wp2_with fail
        generalize w.alloc (.cells #[.int .u32 seq, .slice oa len cap] 48) = W0 at st0 ⊢
        generalize w.heap.size = F at st0 ⊢
        refine (awake7 _).mono ?_
        rintro x w1 ⟨rfl, hk⟩
        have st1 := st0.below hk
        clear hk st0
        obtain ⟨y0, y1⟩ := st1.cells
        go_wp2_with (go_at_call 33; (refine (awake7 _).mono ?_); rintro x0 w2 ⟨rfl, hk⟩; have st2 := st1.below hk)
        go_ret
        exact ⟨rfl, st2.bel⟩
      · obtain ⟨a, rfl⟩ : ∃ a : Nat, n = a := ⟨n.toNat, by omega⟩
        go_enter Try.func14, Try.ntmps14
        go_wp2_with fail
        generalize w.alloc (.cells #[.int .u32 seq, .slice oa len cap] 48) = W0 at st0 ⊢
        generalize w.heap.size = F at st0 ⊢
        refine (awake7 _).mono ?_
        rintro x w1 ⟨rfl, hk⟩
        have st1 := st0.below hk
        clear hk st0
        obtain ⟨y0, y1⟩ := st1.cells
        go_wp2_with fail
        refine (make_any _).mono ?_
        rintro x w2 ⟨rfl, hT, hk⟩
        have st2 := st1.below hk
        clear hk st1 y0 y1
        generalize w1.heap.size = tb at hT ⊢
        obtain ⟨y0, y1⟩ := st2.cells
        go_wp2_with fail
        refine (fown_any w2 ⟨seq, oa, len, cap, z⟩ (st2.ok HO.out) (by exact hl)).mono ?_
        rintro x w3 ⟨ao, cap3, rfl, hs3, hk⟩
        have st3 := st2.below hk
        have hT3 := hT.kept hk
        clear hk st2 y0 y1 hT
        go_wp2_with fail
        refine (fprint_any w3 tb hT3 seq HO.out.seq ao len cap3 z hs3 HO.out.wf (by omega)).mono ?_
        rintro x w4 ⟨rfl, hk⟩
        have st4 := st3.below hk
        have hT4 := hT3.kept hk
        clear hk st3 hT3 hs3
        have hB : frE z len = 0 → frS seq z len = frB seq z len := fun h => by unfold frS; rw [if_pos h]
        have hsz : (⟨(frS seq z len).toArray⟩ : ByteArray).size = (frS seq z len).length := by show (List.toArray _).size = _; simp
        have hfl : (frS seq z len).length ≤ 1000 := by
          unfold frS
          split
          · rename_i h
            rw [frB_len]
            have := (frE_zero h).2.2
            omega
          · simp
        have hlw : frE z len = 0 → _ := fun h => burst_law (a := a) (pt := pt) (S := ⟨(frS seq z len).toArray⟩) h HO.out.wf HO.out.seq (hB h)
        have HLW := Lib.hid hlw
        clear hlw hB
        rw [← hsz] at hfl
        generalize (frS seq z len) = L at hsz hfl HLW ⊢
        generalize frE z len = E at HLW ⊢
        generalize (⟨L.toArray⟩ : ByteArray) = S at hsz hfl HLW ⊢
        clear hsz
        by_cases q : E = 0
        · have q0 : (E != 0) = false := by simp [q]
          have hsp := spoil_any S a pt (by omega) hpt (by omega) w4
          have hln := spo_len 32 S.data.toList a pt false
          have hlw := HLW.out q
          generalize spo 32 S.data.toList a pt false = r at hsp hln hlw
          obtain ⟨l, an⟩ := r
          simp only at hsp hln hlw
          have hsz : (⟨l.toArray⟩ : ByteArray).size ≤ 1000 := by
            show (List.toArray l).size ≤ 1000
            rw [List.size_toArray, hln]
            simpa using hfl
          generalize (⟨l.toArray⟩ : ByteArray) = S2 at hsp hlw hsz
          clear q HLW hln
          go_wp2_with fail
          refine hsp.mono ?_
          rintro x w5 ⟨rfl, hk⟩
          have st5 := st4.below hk
          have hT5 := hT4.kept hk
          clear hk hsp st4 hT4
          have hrd := fread_any w5 tb hT5 S2 (by omega) 0
          unfold FrPost at hrd
          generalize frR S2 0 = r at hrd hlw
          obtain ⟨e2, sq2, l2, nx2⟩ := r
          simp only at hrd hlw
          go_wp2_with fail
          refine hrd.mono ?_
          rintro x w6 ⟨ao6, cap6, rfl, _, hk⟩
          have st6 := st5.below hk
          have hB7 := st6.bel.alloc st6.bel.size (.cells #[.int .u32 sq2, .slice ao6 l2.length cap6] 48)
          clear hk hrd
          cases an with
          | false =>
            simp only [Bool.not_false] at hlw
            go_wp2_with fail
            go_ret
            exact ⟨rfl, hB7⟩
          | true =>
            simp only [Bool.not_true] at hlw
            go_wp2_with fail
            go_ret
            exact ⟨rfl, hB7⟩
        · have q0 : (E != 0) = true := by simp [q]
          clear q
          go_wp2_with fail
          go_ret
          exact ⟨rfl, st4.bel⟩
  · have hd : decide ((100 : Int) < len) = true := by simp; omega
    have hd' : (100 : Int) < len := by omega
    clear hl
    go_enter Try.func14, Try.ntmps14
    go_wp2_with fail
    generalize w.alloc (.cells #[.int .u32 seq, .slice oa len cap] 48) = W0 at st0 ⊢
    generalize w.heap.size = F at st0 ⊢
    refine (awake7 _).mono ?_
    rintro x w1 ⟨rfl, hk⟩
    have st1 := st0.below hk
    clear hk st0
    obtain ⟨y0, y1⟩ := st1.cells
    go_wp2_with (go_at_call 33; (refine (awake7 _).mono ?_); rintro x0 w2 ⟨rfl, hk⟩; have st2 := st1.below hk)
    go_ret
    exact ⟨rfl, st2.bel⟩
end Go.Proofs.Ythdenjokedmcfaa
