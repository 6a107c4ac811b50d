/- Contract of frame.Print. No condition but those that it names. -/
import Derived.Test.YthdenjokedmcfaaFr
import Derived.Test.YthdenjokedmcfaaMk
import Derived.Test.YthdenjokedmcfaaCrcM
import Derived.Test.YthdenjokedmcfaaSept
import Derived.Test.YthdenjokedmcfaaCoilB
namespace Go.Proofs.Ythdenjokedmcfaa
open Go.RowKit
set_option maxRecDepth 20000
/-- Where Print stands: the frame's variable F, the writer b. -/
structure FSt (w : World) (F b g off cy ct : Nat) (cs : Array Value) (l : List UInt8) (w1 : World) : Prop where
  wr : IsWr w1 b (fun k => b < k) l
  bel : Below w.heap.size w w1
  fr : w1.heap[F]? = some (.cells cs 48 (0, 0))
  fb : F < b
  lo : w.heap.size ≤ F
  gb : g < b
  c1 : w1.cell? ⟨g, off + 1, none⟩ = some (.int .u64 cy)
  c2 : w1.cell? ⟨g, off + 2, none⟩ = some (.int .u64 ct)
theorem FSt.put {w : World} {F b g off cy ct : Nat} {cs : Array Value} {l l2 : List UInt8} {w1 w2 : World} (h : FSt w F b g off cy ct cs l w1) (k : WrPost w1 b (fun k => b < k) l2 w2) : FSt w F b g off cy ct cs l2 w2 :=
  have hfb := h.fb
  have hlo := h.lo
  have hbl : b < w1.heap.size := by obtain ⟨v, h1, _⟩ := h.wr; exact blk_lt h1
  { h with
    wr := k.1.mono fun i hi => hi.elim id fun x => by omega
    bel := ((Only.of_below h.bel (fun _ => False)).trans k.2 fun i hi hs => by rcases hs with hs | hs <;> omega).below (Nat.le_refl _) fun _ _ x => x
    fr := k.2.keeps h.fr (fun x => by rcases x with x | x <;> omega)
    c1 := (World.cell?_of_block (w := w1) (k.2.block g (by have := h.gb; omega) (fun x => by have := h.gb; rcases x with x | x <;> omega))).trans h.c1
    c2 := (World.cell?_of_block (w := w1) (k.2.block g (by have := h.gb; omega) (fun x => by have := h.gb; rcases x with x | x <;> omega))).trans h.c2 }
theorem FSt.below {w : World} {F b g off cy ct : Nat} {cs : Array Value} {l : List UInt8} {w1 w2 : World} (h : FSt w F b g off cy ct cs l w1) (k : Below w1.heap.size w1 w2) : FSt w F b g off cy ct cs l w2 :=
  { h with wr := h.wr.kept k, bel := h.bel.trans (k.mono h.bel.size), fr := (k.block _ (blk_lt h.fr)).trans h.fr, c1 := (k.cell (p := ⟨g, off + 1, none⟩) (World.block_lt_of_cell? w1 _ h.c1)).trans h.c1, c2 := (k.cell (p := ⟨g, off + 2, none⟩) (World.block_lt_of_cell? w1 _ h.c2)).trans h.c2 }
theorem FSt.drewN {w : World} {F b g off cy ct : Nat} {cs : Array Value} {l : List UInt8} {w1 : World} (h : FSt w F b g off cy ct cs l w1) (n : Nat) : FSt w F b g off cy ct cs l (w1.drewN n) := h.below (kept_drewN w1 n)
theorem SlArgN.kept {W w' : World} {oa : Option Addr} {len cap c : Nat} {F : Nat → Nat → Value} (h : SlArgN W oa len cap c F) (k : Below W.heap.size W w') : SlArgN w' oa len cap c F :=
  ⟨h.1, h.2.1, fun i hi => by obtain ⟨b, off, h1, h2, h3⟩ := h.below k (Nat.le_refl _) hi; exact ⟨b, off, h1, Nat.lt_of_lt_of_le h2 k.size, h3⟩⟩
/-- The two cells of a slice's first event that a frame reads. -/
theorem first_cells {w : World} {oa : Option Addr} {len cap : Nat} {z : Nat → Ev} (h : SlArgN w oa len cap 6 (fun i j => (z i).f j)) (h0 : 0 < len) :
    ∃ g off, oa = some ⟨g, off, none⟩ ∧ w.cell? ⟨g, off + 1, none⟩ = some (.int .u64 (z 0).cy) ∧ w.cell? ⟨g, off + 2, none⟩ = some (.int .u64 (z 0).ct) := by
  obtain ⟨b, off, h1, _, h3⟩ := h.2.2 0 h0
  refine ⟨b, off, h1, ?_, ?_⟩
  · have h := h3 1 (by decide); rw [show off + 0 * 6 + 1 = off + 1 by omega] at h; exact h
  · have h := h3 2 (by decide); rw [show off + 0 * 6 + 2 = off + 2 by omega] at h; exact h
set_option maxHeartbeats 4000000 in
theorem fprint_any (w : World) (tb : Nat) (hT : IsTab w tb) (seq : Nat) (hseq : seq < 4294967296) (oa : Option Addr) (len cap : Nat) (z : Nat → Ev) (hsl : SlArgN w oa len cap 6 (fun i j => (z i).f j)) (hz : ∀ i, i < len → (z i).Wf) (hlen : len ≤ 100000) :
    Calls Try.prog 34 #[.pointer (some ⟨tb, 0, none⟩), .agg #[.int .u32 seq, .slice oa len cap]] w fun x w' => x = .returned (.tuple #[.string ⟨(frS seq z len).toArray⟩, .int .i64 (frE z len)]) ∧ Below w.heap.size w w' := by
  have hB0 := (Below.refl w.heap.size w).alloc (Nat.le_refl _) (.cells #[.int .u32 seq, .slice oa len cap] 48)
  have hF0 := heap_alloc_new w (.cells #[.int .u32 seq, .slice oa len cap] 48)
  have hs0 := hsl.kept ((Below.refl w.heap.size w).alloc (Nat.le_refl _) (.cells #[.int .u32 seq, .slice oa len cap] 48))
  have hT0 := hT.kept ((Below.refl w.heap.size w).alloc (Nat.le_refl _) (.cells #[.int .u32 seq, .slice oa len cap] 48))
  have HZ := Lib.hid hz
  have hc0 : (w.alloc (.cells #[.int .u32 seq, .slice oa len cap] 48)).cell? ⟨w.heap.size, 1, none⟩ = some (.slice oa len cap) := by rw [cell_blk hF0]; rfl
  by_cases h0 : len = 0
  · subst h0
    have hE : frE z 0 = 8 := rfl
    have hS : frS seq z 0 = [] := rfl
    have HR := Lib.hid (And.intro hE hS)
    clear hsl hs0 hT0 hz hE hS
    go_enter Try.func34, Try.ntmps34
    go_wp2_with fail
    go_ret2
    exact ⟨by rw [HR.out.1, HR.out.2]; rfl, hB0⟩
  · have hl0 : ((len : Int) == 0) = false := eqb_f (by omega)
    have hl1 : 0 < len := by omega
    have hl1' : (0 : Int) < len := by omega
    have hE1 : prnE z len ≠ 0 → frE z len = prnE z len ∧ frS seq z len = [] := fun h => by
      have : frE z len = prnE z len := by unfold frE; rw [if_neg h0, if_pos h]
      exact ⟨this, by unfold frS; rw [this, if_neg h]⟩
    have hE2 : prnE z len = 0 → 120 < (prnC z len).length → frE z len = 4 ∧ frS seq z len = [] := fun h h2 => by
      have : frE z len = 4 := by unfold frE; rw [if_neg h0, if_neg (by omega), if_pos h2]
      exact ⟨this, by unfold frS; rw [this, if_neg (by decide)]⟩
    have hE3 : prnE z len = 0 → ¬ 120 < (prnC z len).length → frE z len = 0 ∧ frS seq z len = frB seq z len := fun h h2 => by
      have : frE z len = 0 := by unfold frE; rw [if_neg h0, if_neg (by omega), if_neg h2]
      exact ⟨this, by unfold frS; rw [this, if_pos rfl]⟩
    have hP : prnE z len = 0 → prnS z len = prnC z len := fun h => by unfold prnS; rw [if_pos h]
    have HE := Lib.hid (And.intro hE1 (And.intro hE2 (And.intro hE3 hP)))
    clear hsl hz hE1 hE2 hE3 hP h0
    go_enter Try.func34, Try.ntmps34
    go_wp2_with fail
    generalize w.alloc (.cells #[.int .u32 seq, .slice oa len cap] 48) = W0 at hB0 hF0 hs0 hT0 hc0 ⊢
    obtain ⟨F, hF⟩ : ∃ F, F = w.heap.size := ⟨_, rfl⟩
    rw [← hF] at hF0 hc0 ⊢
    have HF := Lib.hid hF
    clear hF
    refine (cprint_any W0 oa len cap z hs0 HZ.out hlen).mono ?_
    rintro x w1 ⟨rfl, hk⟩
    have hs1 := hs0.kept hk
    have hT1 := hT0.kept hk
    have hF1 := (hk.block F (blk_lt hF0)).trans hF0
    have hB1 := hB0.trans (hk.mono hB0.size)
    clear hs0 hT0 hF0 hB0 hk hc0
    by_cases q : prnE z len = 0
    · obtain ⟨_, e2, e3, e4⟩ := HE.out
      rw [q, e4 q]
      have HE4 := Lib.hid (And.intro (e2 q) (e3 q))
      clear HE e2 e3 e4 q
      have hpl : (⟨(prnC z len).toArray⟩ : ByteArray).size = (prnC z len).length := by show (List.toArray _).size = _; simp
      by_cases q2 : 120 < (prnC z len).length
      · obtain ⟨r1, r2⟩ := HE4.out.1 q2
        have HR := Lib.hid (And.intro r1 r2)
        have hp1 : (120 : Int) < (⟨(prnC z len).toArray⟩ : ByteArray).size := by omega
        clear HE4 r1 r2 hpl
        go_wp2_with fail
        go_ret2
        exact ⟨by rw [HR.out.1, HR.out.2]; rfl, hB1⟩
      · obtain ⟨r1, r2⟩ := HE4.out.2 q2
        unfold frB at r2
        have hp1 : ¬ (120 : Int) < (⟨(prnC z len).toArray⟩ : ByteArray).size := by omega
        clear HE4
        have hw0 := HZ.out 0 hl1
        have hcyl := hw0.cy
        have hctl := hw0.ct
        have HPL := Lib.hid (show (prnC z len).length ≤ 120 by omega)
        have hcp := crcV_lt (prnC z len)
        obtain ⟨S, hS⟩ : ∃ S : ByteArray, S = ⟨(prnC z len).toArray⟩ := ⟨_, rfl⟩
        have hSL : S.data.toList = prnC z len := by rw [hS]
        rw [← hS] at hp1 hpl ⊢
        clear hS hw0 q2
        generalize prnC z len = P at hSL hpl HPL hcp r2 ⊢
        obtain ⟨g, off, rfl, g1, g2⟩ := first_cells hs1 hl1
        have hgl := World.block_lt_of_cell? w1 _ g1
        generalize (z 0).cy = cy at g1 hcyl r2
        generalize (z 0).ct = ct at g2 hctl r2
        have HR := Lib.hid (And.intro r1 r2)
        clear r1 r2
        have hbw : w1.heap.size ≠ F := by have := blk_lt hF1; omega
        have st0 : FSt w F w1.heap.size g off cy ct #[.int .u32 seq, .slice (some ⟨g, off, none⟩) len cap] [] (w1.alloc (.cells #[.slice none 0 0] 92)) :=
          { wr := (IsWr.fresh w1).mono fun _ x => x.elim
            bel := hB1.alloc hB1.size _
            fr := blk_alloc hF1 _
            fb := blk_lt hF1
            lo := by rw [HF.out]; exact Nat.le_refl _
            gb := hgl
            c1 := (((Below.refl w1.heap.size w1).alloc (Nat.le_refl _) (.cells #[.slice none 0 0] 92)).cell (p := ⟨g, off + 1, none⟩) hgl).trans g1
            c2 := (((Below.refl w1.heap.size w1).alloc (Nat.le_refl _) (.cells #[.slice none 0 0] 92)).cell (p := ⟨g, off + 2, none⟩) hgl).trans g2 }
        have hTk := fun (wk : World) (k : Below w.heap.size w wk) => hT.kept k
        clear hs1 hT1 hF1 hB1 g1 g2
        go_wp2_with fail
        generalize w1.alloc (.cells #[.slice none 0 0] 92) = W1 at st0 ⊢
        generalize w1.heap.size = b at st0 hbw hgl ⊢
        refine (marker_any _).mono ?_
        rintro x w2 ⟨rfl, hk⟩
        have st1 := st0.below hk
        clear hk st0
        obtain ⟨M, hM⟩ : ∃ M : ByteArray, M = ⟨(List.replicate 16 (255 : UInt8) ++ [84, 65, 70, 82, 73, 76]).toArray⟩ := ⟨_, rfl⟩
        have hML : M.data.toList = mk := by rw [hM]; rfl
        have hMs : M.size = 22 := by rw [hM]; rfl
        rw [← hM]
        clear hM
        go_wp2_with fail
        refine (text_any st1.wr M (by rw [hMs]; simp)).mono ?_
        rintro x w3 ⟨rfl, hw⟩
        rw [hML, List.nil_append] at hw
        have st2 := st1.put hw
        clear hw st1 hML hMs
        have f0 : w3.cell? ⟨F, 0, none⟩ = some (.int .u32 seq) := by rw [cell_blk st2.fr]; rfl
        have f1 : w3.cell? ⟨F, 1, none⟩ = some (.slice (some ⟨g, off, none⟩) len cap) := by rw [cell_blk st2.fr]; rfl
        have d1 := st2.c1
        have d2 := st2.c2
        go_wp2_with fail
        refine (sput_any st2.wr seq (by unfold U64; omega) 5 (by simp [mk_len, sep_len])).mono ?_
        rintro x w4 ⟨rfl, hw⟩
        rw [sput5 hseq] at hw
        have st3 := st2.put hw
        clear hw st2 f0 f1 d1 d2
        have f0 : w4.cell? ⟨F, 0, none⟩ = some (.int .u32 seq) := by rw [cell_blk st3.fr]; rfl
        have f1 : w4.cell? ⟨F, 1, none⟩ = some (.slice (some ⟨g, off, none⟩) len cap) := by rw [cell_blk st3.fr]; rfl
        have d1 := st3.c1
        have d2 := st3.c2
        go_wp2_with fail
        refine (sput_any st3.wr cy (by unfold U64; omega) 10 (by simp [mk_len, sep_len])).mono ?_
        rintro x w5 ⟨rfl, hw⟩
        rw [sput10 hcyl] at hw
        have st4 := st3.put hw
        clear hw st3 f0 f1 d1 d2
        have f0 : w5.cell? ⟨F, 0, none⟩ = some (.int .u32 seq) := by rw [cell_blk st4.fr]; rfl
        have f1 : w5.cell? ⟨F, 1, none⟩ = some (.slice (some ⟨g, off, none⟩) len cap) := by rw [cell_blk st4.fr]; rfl
        have d1 := st4.c1
        have d2 := st4.c2
        go_wp2_with fail
        refine (sput_any st4.wr ct (by unfold U64; omega) 10 (by simp [mk_len, sep_len])).mono ?_
        rintro x w6 ⟨rfl, hw⟩
        rw [sput10 hctl] at hw
        have st5 := st4.put hw
        clear hw st4 f0 f1 d1 d2
        have f0 : w6.cell? ⟨F, 0, none⟩ = some (.int .u32 seq) := by rw [cell_blk st5.fr]; rfl
        have f1 : w6.cell? ⟨F, 1, none⟩ = some (.slice (some ⟨g, off, none⟩) len cap) := by rw [cell_blk st5.fr]; rfl
        have d1 := st5.c1
        have d2 := st5.c2
        go_wp2_with fail
        refine (sput_any st5.wr P.length (by have := HPL.out; unfold U64; omega) 2 (by simp [mk_len, sep_len])).mono ?_
        rintro x w7 ⟨rfl, hw⟩
        rw [sput2 HPL.out] at hw
        have st6 := st5.put hw
        clear hw st5 f0 f1 d1 d2
        go_wp2_with fail
        refine (string_any st6.wr).mono ?_
        rintro x w8 ⟨rfl, n8, rfl⟩
        have st7 := st6.drewN n8
        clear st6
        obtain ⟨B, hB⟩ : ∃ B : ByteArray, B = ⟨(mk ++ (sep 5 seq) ++ (sep 10 cy) ++ (sep 10 ct) ++ (sep 2 P.length)).toArray⟩ := ⟨_, rfl⟩
        have hBs : B.size = 49 := by rw [hB]; show (List.toArray _).size = _; simp [mk_len, sep_len]
        have hBx : (B.extract 16 49).data.toList = frH seq cy ct P.length := by
          rw [ByteArray.data_extract, hB]
          show ((List.toArray _).extract 16 49).toList = _
          rw [Array.toList_extract]
          have e2 : (mk ++ (sep 5 seq) ++ (sep 10 cy) ++ (sep 10 ct) ++ (sep 2 P.length)).drop 16 = frH seq cy ct P.length := rfl
          show ((mk ++ (sep 5 seq) ++ (sep 10 cy) ++ (sep 10 ct) ++ (sep 2 P.length)).drop 16).take 33 = _
          rw [e2, List.take_of_length_le (by rw [frH_len]; exact Nat.le_refl _)]
        rw [← hB]
        have hBz : (B.extract 16 49).size = 33 := by rw [ByteArray.size_extract, hBs]; rfl
        clear hB
        have hT7 := hTk _ st7.bel
        have hcs := fun (x : World) (g' : Nat) (hx : IsTab x tb) (hc : x.cell? ⟨g', 0, none⟩ = some (.string (B.extract 16 49))) => csum_any x tb g' (B.extract 16 49) hx hc (by rw [hBz]; decide)
        rw [hBx] at hcs
        have hch := crcV_lt (frH seq cy ct P.length)
        generalize crcV (frH seq cy ct P.length) = ch at hcs hch HR
        generalize hcpe : crcV P = cp at hcp HR
        go_wp2_with fail
        have st8 := st7.below ((Below.refl (w7.drewN n8).heap.size (w7.drewN n8)).alloc (Nat.le_refl _) (.cells #[.string (B.extract 16 49)] 9))
        have hc8 : ((w7.drewN n8).alloc (.cells #[.string (B.extract 16 49)] 9)).cell? ⟨w7.heap.size, 0, none⟩ = some (.string (B.extract 16 49)) := cell_blk (heap_alloc_new (w7.drewN n8) _) 0
        generalize (w7.drewN n8).alloc (.cells #[.string (B.extract 16 49)] 9) = W8 at st8 hc8 ⊢
        generalize w7.heap.size = o8 at hc8 ⊢
        refine (hcs W8 o8 (hTk _ st8.bel) hc8).mono ?_
        rintro x w9 ⟨rfl, n9, rfl⟩
        have st9 := st8.drewN n9
        clear st8 st7 hc8 hcs hBx hBz hBs hT7
        go_wp2_with fail
        refine (ssum_any st9.wr ch hch (by simp [mk_len, sep_len])).mono ?_
        rintro x w10 ⟨rfl, hw⟩
        have st10 := st9.put hw
        clear hw st9
        go_wp2_with fail
        refine (text_any st10.wr S (by simp [mk_len, sep_len]; have := HPL.out; omega)).mono ?_
        rintro x w11 ⟨rfl, hw⟩
        rw [hSL] at hw
        have st11 := st10.put hw
        clear hw st10
        go_wp2_with fail
        have st12 := st11.below ((Below.refl w11.heap.size w11).alloc (Nat.le_refl _) (.cells #[.string S] 9))
        have hc12 : (w11.alloc (.cells #[.string S] 9)).cell? ⟨w11.heap.size, 0, none⟩ = some (.string S) := cell_blk (heap_alloc_new w11 _) 0
        generalize w11.alloc (.cells #[.string S] 9) = W12 at st12 hc12 ⊢
        generalize w11.heap.size = o12 at hc12 ⊢
        have hcs2 := csum_any W12 tb o12 S (hTk _ st12.bel) hc12 (by rw [hpl]; have := HPL.out; omega)
        rw [hSL, hcpe] at hcs2
        refine hcs2.mono ?_
        rintro x w13 ⟨rfl, n13, rfl⟩
        have st13 := st12.drewN n13
        clear st12 st11 hc12 hcs2 hcpe
        go_wp2_with fail
        refine (ssum_any st13.wr cp hcp (by simp [mk_len, sep_len]; have := HPL.out; omega)).mono ?_
        rintro x w14 ⟨rfl, hw⟩
        have st14 := st13.put hw
        clear hw st13
        go_wp2_with fail
        refine (string_any st14.wr).mono ?_
        rintro x w15 ⟨rfl, n15, rfl⟩
        have st15 := st14.drewN n15
        go_wp2_with fail
        go_ret2
        refine ⟨?_, st15.bel⟩
        rw [HR.out.1, HR.out.2]
        have e9 : mk ++ sep 5 seq ++ sep 10 cy ++ sep 10 ct ++ sep 2 P.length ++ sep 5 ch ++ P ++ sep 5 cp = six255 ++ frH seq cy ct P.length ++ sep 5 ch ++ P ++ sep 5 cp := by
          unfold mk frH
          simp only [List.append_assoc]
        rw [← e9]
        rfl
    · obtain ⟨r1, r2⟩ := HE.out.1 q
      have hS : prnS z len = [] := by unfold prnS; rw [if_neg q]
      have HR := Lib.hid (And.intro r1 r2)
      have zz : (prnE z len != 0) = true := by simp [q]
      clear HE r1 r2 q
      generalize (⟨(prnS z len).toArray⟩ : ByteArray) = S
      generalize prnE z len = E at zz HR ⊢
      go_wp2_with fail
      go_ret2
      exact ⟨by rw [HR.out.1, HR.out.2]; rfl, hB1⟩
end Go.Proofs.Ythdenjokedmcfaa
