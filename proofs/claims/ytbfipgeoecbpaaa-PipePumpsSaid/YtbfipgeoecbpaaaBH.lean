/- A bundle of: FrP FrW FrH. -/
import Derived.Test.YtbfipgeoecbpaaaBF
import Derived.Test.YtbfipgeoecbpaaaBK
import Derived.Test.YtbfipgeoecbpaaaBL
import Derived.Test.YtbfipgeoecbpaaaBC
import Derived.Deep.DeepMust
import Derived.Deep.RegionHeld3
import Derived.Deep.DeepCutAuto
/- Contract of frame.Print. No condition but those that it names. -/
namespace Go.Proofs.Ytbfipgeoecbpaaa
open Go.RowKit
set_option maxRecDepth 20000
/-- Where Print stands: the frame's variable F, the writer b. -/
structure FSt (w : World) (F b g off cy ct : Nat) (cs : Array Value) (l : List UInt8) (w1 : World) : Prop where
  wr : IsWr w1 b (fun k => b < k) l
  bel : Below w.heap.size w w1
  fr : w1.heap[F]? = some (.cells cs 110 (0, 0))
  fb : F < b
  lo : w.heap.size ≤ F
  gb : g < b
  c1 : w1.cell? ⟨g, off + 1, none⟩ = some (.int .u64 cy)
  c2 : w1.cell? ⟨g, off + 2, none⟩ = some (.int .u64 ct)
theorem FSt.put {w : World} {F b g off cy ct : Nat} {cs : Array Value} {l l2 : List UInt8} {w1 w2 : World} (h : FSt w F b g off cy ct cs l w1) (k : WrPost w1 b (fun k => b < k) l2 w2) : FSt w F b g off cy ct cs l2 w2 :=
  have hfb := h.fb
  have hlo := h.lo
  have hbl : b < w1.heap.size := by obtain ⟨v, h1, _⟩ := h.wr; exact blk_lt h1
  { h with
    wr := k.1.mono fun i hi => hi.elim id fun x => by omega
    bel := ((Only.of_below h.bel (fun _ => False)).trans k.2 fun i hi hs => by rcases hs with hs | hs <;> omega).below (Nat.le_refl _) fun _ _ x => x
    fr := k.2.keeps h.fr (fun x => by rcases x with x | x <;> omega)
    c1 := (World.cell?_of_block (w := w1) (k.2.block g (by have := h.gb; omega) (fun x => by have := h.gb; rcases x with x | x <;> omega))).trans h.c1
    c2 := (World.cell?_of_block (w := w1) (k.2.block g (by have := h.gb; omega) (fun x => by have := h.gb; rcases x with x | x <;> omega))).trans h.c2 }
theorem FSt.below {w : World} {F b g off cy ct : Nat} {cs : Array Value} {l : List UInt8} {w1 w2 : World} (h : FSt w F b g off cy ct cs l w1) (k : Below w1.heap.size w1 w2) : FSt w F b g off cy ct cs l w2 :=
  { h with wr := h.wr.kept k, bel := h.bel.trans (k.mono h.bel.size), fr := (k.block _ (blk_lt h.fr)).trans h.fr, c1 := (k.cell (p := ⟨g, off + 1, none⟩) (World.block_lt_of_cell? w1 _ h.c1)).trans h.c1, c2 := (k.cell (p := ⟨g, off + 2, none⟩) (World.block_lt_of_cell? w1 _ h.c2)).trans h.c2 }
theorem FSt.drewN {w : World} {F b g off cy ct : Nat} {cs : Array Value} {l : List UInt8} {w1 : World} (h : FSt w F b g off cy ct cs l w1) (n : Nat) : FSt w F b g off cy ct cs l (w1.drewN n) := h.below (kept_drewN w1 n)
theorem SlArgN.kept {W w' : World} {oa : Option Addr} {len cap c : Nat} {F : Nat → Nat → Value} (h : SlArgN W oa len cap c F) (k : Below W.heap.size W w') : SlArgN w' oa len cap c F :=
  ⟨h.1, h.2.1, fun i hi => by obtain ⟨b, off, h1, h2, h3⟩ := h.below k (Nat.le_refl _) hi; exact ⟨b, off, h1, Nat.lt_of_lt_of_le h2 k.size, h3⟩⟩
/-- The two cells of a slice's first event that a frame reads. -/
theorem first_cells {w : World} {oa : Option Addr} {len cap : Nat} {z : Nat → Ev} (h : SlArgN w oa len cap 6 (fun i j => (z i).f j)) (h0 : 0 < len) :
    ∃ g off, oa = some ⟨g, off, none⟩ ∧ w.cell? ⟨g, off + 1, none⟩ = some (.int .u64 (z 0).cy) ∧ w.cell? ⟨g, off + 2, none⟩ = some (.int .u64 (z 0).ct) := by
  obtain ⟨b, off, h1, _, h3⟩ := h.2.2 0 h0
  refine ⟨b, off, h1, ?_, ?_⟩
  · have h := h3 1 (by decide); rw [show off + 0 * 6 + 1 = off + 1 by omega] at h; exact h
  · have h := h3 2 (by decide); rw [show off + 0 * 6 + 2 = off + 2 by omega] at h; exact h
set_option maxHeartbeats 4000000 in
theorem fprint_any (w : World) (tb : Nat) (hT : IsTab w tb) (seq : Nat) (hseq : seq < 4294967296) (oa : Option Addr) (len cap : Nat) (z : Nat → Ev) (hsl : SlArgN w oa len cap 6 (fun i j => (z i).f j)) (hz : ∀ i, i < len → (z i).Wf) (hlen : len ≤ 100000) :
    Calls Try.prog 55 #[.pointer (some ⟨tb, 0, none⟩), .agg #[.int .u32 seq, .slice oa len cap]] w fun x w' => x = .returned (.tuple #[.string ⟨(frS seq z len).toArray⟩, .int .i64 (frE z len)]) ∧ Below w.heap.size w w' := by
  have hB0 := (Below.refl w.heap.size w).alloc (Nat.le_refl _) (.cells #[.int .u32 seq, .slice oa len cap] 110)
  have hF0 := heap_alloc_new w (.cells #[.int .u32 seq, .slice oa len cap] 110)
  have hs0 := hsl.kept ((Below.refl w.heap.size w).alloc (Nat.le_refl _) (.cells #[.int .u32 seq, .slice oa len cap] 110))
  have hT0 := hT.kept ((Below.refl w.heap.size w).alloc (Nat.le_refl _) (.cells #[.int .u32 seq, .slice oa len cap] 110))
  have HZ := Lib.hid hz
  have hc0 : (w.alloc (.cells #[.int .u32 seq, .slice oa len cap] 110)).cell? ⟨w.heap.size, 1, none⟩ = some (.slice oa len cap) := by rw [cell_blk hF0]; rfl
  by_cases h0 : len = 0
  · subst h0
    have hE : frE z 0 = 8 := rfl
    have hS : frS seq z 0 = [] := rfl
    have HR := Lib.hid (And.intro hE hS)
    clear hsl hs0 hT0 hz hE hS
    go_enter Try.func55, Try.ntmps55
    go_wp2_with fail
    go_ret2
    exact ⟨by rw [HR.out.1, HR.out.2]; rfl, hB0⟩
  · have hl0 : ((len : Int) == 0) = false := eqb_f (by omega)
    have hl1 : 0 < len := by omega
    have hl1' : (0 : Int) < len := by omega
    have hE1 : prnE z len ≠ 0 → frE z len = prnE z len ∧ frS seq z len = [] := fun h => by
      have : frE z len = prnE z len := by unfold frE; rw [if_neg h0, if_pos h]
      exact ⟨this, by unfold frS; rw [this, if_neg h]⟩
    have hE2 : prnE z len = 0 → 120 < (prnC z len).length → frE z len = 4 ∧ frS seq z len = [] := fun h h2 => by
      have : frE z len = 4 := by unfold frE; rw [if_neg h0, if_neg (by omega), if_pos h2]
      exact ⟨this, by unfold frS; rw [this, if_neg (by decide)]⟩
    have hE3 : prnE z len = 0 → ¬ 120 < (prnC z len).length → frE z len = 0 ∧ frS seq z len = frB seq z len := fun h h2 => by
      have : frE z len = 0 := by unfold frE; rw [if_neg h0, if_neg (by omega), if_neg h2]
      exact ⟨this, by unfold frS; rw [this, if_pos rfl]⟩
    have hP : prnE z len = 0 → prnS z len = prnC z len := fun h => by unfold prnS; rw [if_pos h]
    have HE := Lib.hid (And.intro hE1 (And.intro hE2 (And.intro hE3 hP)))
    clear hsl hz hE1 hE2 hE3 hP h0
    go_enter Try.func55, Try.ntmps55
    go_wp2_with fail
    generalize w.alloc (.cells #[.int .u32 seq, .slice oa len cap] 110) = W0 at hB0 hF0 hs0 hT0 hc0 ⊢
    obtain ⟨F, hF⟩ : ∃ F, F = w.heap.size := ⟨_, rfl⟩
    rw [← hF] at hF0 hc0 ⊢
    have HF := Lib.hid hF
    clear hF
    refine (cprint_any W0 oa len cap z hs0 HZ.out hlen).mono ?_
    rintro x w1 ⟨rfl, hk⟩
    have hs1 := hs0.kept hk
    have hT1 := hT0.kept hk
    have hF1 := (hk.block F (blk_lt hF0)).trans hF0
    have hB1 := hB0.trans (hk.mono hB0.size)
    clear hs0 hT0 hF0 hB0 hk hc0
    by_cases q : prnE z len = 0
    · obtain ⟨_, e2, e3, e4⟩ := HE.out
      rw [q, e4 q]
      have HE4 := Lib.hid (And.intro (e2 q) (e3 q))
      clear HE e2 e3 e4 q
      have hpl : (⟨(prnC z len).toArray⟩ : ByteArray).size = (prnC z len).length := by show (List.toArray _).size = _; simp
      by_cases q2 : 120 < (prnC z len).length
      · obtain ⟨r1, r2⟩ := HE4.out.1 q2
        have HR := Lib.hid (And.intro r1 r2)
        have hp1 : (120 : Int) < (⟨(prnC z len).toArray⟩ : ByteArray).size := by omega
        clear HE4 r1 r2 hpl
        go_wp2_with fail
        go_ret2
        exact ⟨by rw [HR.out.1, HR.out.2]; rfl, hB1⟩
      · obtain ⟨r1, r2⟩ := HE4.out.2 q2
        unfold frB at r2
        have hp1 : ¬ (120 : Int) < (⟨(prnC z len).toArray⟩ : ByteArray).size := by omega
        clear HE4
        have hw0 := HZ.out 0 hl1
        have hcyl := hw0.cy
        have hctl := hw0.ct
        have HPL := Lib.hid (show (prnC z len).length ≤ 120 by omega)
        have hcp := crcV_lt (prnC z len)
        obtain ⟨S, hS⟩ : ∃ S : ByteArray, S = ⟨(prnC z len).toArray⟩ := ⟨_, rfl⟩
        have hSL : S.data.toList = prnC z len := by rw [hS]
        rw [← hS] at hp1 hpl ⊢
        clear hS hw0 q2
        generalize prnC z len = P at hSL hpl HPL hcp r2 ⊢
        obtain ⟨g, off, rfl, g1, g2⟩ := first_cells hs1 hl1
        have hgl := World.block_lt_of_cell? w1 _ g1
        generalize (z 0).cy = cy at g1 hcyl r2
        generalize (z 0).ct = ct at g2 hctl r2
        have HR := Lib.hid (And.intro r1 r2)
        clear r1 r2
        have hbw : w1.heap.size ≠ F := by have := blk_lt hF1; omega
        have st0 : FSt w F w1.heap.size g off cy ct #[.int .u32 seq, .slice (some ⟨g, off, none⟩) len cap] [] (w1.alloc (.cells #[.slice none 0 0] 128)) :=
          { wr := (IsWr.fresh w1).mono fun _ x => x.elim
            bel := hB1.alloc hB1.size _
            fr := blk_alloc hF1 _
            fb := blk_lt hF1
            lo := by rw [HF.out]; exact Nat.le_refl _
            gb := hgl
            c1 := (((Below.refl w1.heap.size w1).alloc (Nat.le_refl _) (.cells #[.slice none 0 0] 128)).cell (p := ⟨g, off + 1, none⟩) hgl).trans g1
            c2 := (((Below.refl w1.heap.size w1).alloc (Nat.le_refl _) (.cells #[.slice none 0 0] 128)).cell (p := ⟨g, off + 2, none⟩) hgl).trans g2 }
        have hTk := fun (wk : World) (k : Below w.heap.size w wk) => hT.kept k
        clear hs1 hT1 hF1 hB1 g1 g2
        go_wp2_with fail
        generalize w1.alloc (.cells #[.slice none 0 0] 128) = W1 at st0 ⊢
        generalize w1.heap.size = b at st0 hbw hgl ⊢
        refine (marker_any _).mono ?_
        rintro x w2 ⟨rfl, hk⟩
        have st1 := st0.below hk
        clear hk st0
        obtain ⟨M, hM⟩ : ∃ M : ByteArray, M = ⟨(List.replicate 16 (255 : UInt8) ++ [84, 65, 70, 82, 73, 76]).toArray⟩ := ⟨_, rfl⟩
        have hML : M.data.toList = mk := by rw [hM]; rfl
        have hMs : M.size = 22 := by rw [hM]; rfl
        rw [← hM]
        clear hM
        go_wp2_with fail
        refine (text_any st1.wr M (by rw [hMs]; simp)).mono ?_
        rintro x w3 ⟨rfl, hw⟩
        rw [hML, List.nil_append] at hw
        have st2 := st1.put hw
        clear hw st1 hML hMs
        have f0 : w3.cell? ⟨F, 0, none⟩ = some (.int .u32 seq) := by rw [cell_blk st2.fr]; rfl
        have f1 : w3.cell? ⟨F, 1, none⟩ = some (.slice (some ⟨g, off, none⟩) len cap) := by rw [cell_blk st2.fr]; rfl
        have d1 := st2.c1
        have d2 := st2.c2
        go_wp2_with fail
        refine (sput_any st2.wr seq (by unfold U64; omega) 5 (by simp [mk_len])).mono ?_
        rintro x w4 ⟨rfl, hw⟩
        rw [sput5 hseq] at hw
        have st3 := st2.put hw
        clear hw st2 f0 f1 d1 d2
        have f0 : w4.cell? ⟨F, 0, none⟩ = some (.int .u32 seq) := by rw [cell_blk st3.fr]; rfl
        have f1 : w4.cell? ⟨F, 1, none⟩ = some (.slice (some ⟨g, off, none⟩) len cap) := by rw [cell_blk st3.fr]; rfl
        have d1 := st3.c1
        have d2 := st3.c2
        go_wp2_with fail
        refine (sput_any st3.wr cy (by unfold U64; omega) 10 (by simp [mk_len, sep_len])).mono ?_
        rintro x w5 ⟨rfl, hw⟩
        rw [sput10 hcyl] at hw
        have st4 := st3.put hw
        clear hw st3 f0 f1 d1 d2
        have f0 : w5.cell? ⟨F, 0, none⟩ = some (.int .u32 seq) := by rw [cell_blk st4.fr]; rfl
        have f1 : w5.cell? ⟨F, 1, none⟩ = some (.slice (some ⟨g, off, none⟩) len cap) := by rw [cell_blk st4.fr]; rfl
        have d1 := st4.c1
        have d2 := st4.c2
        go_wp2_with fail
        refine (sput_any st4.wr ct (by unfold U64; omega) 10 (by simp [mk_len, sep_len])).mono ?_
        rintro x w6 ⟨rfl, hw⟩
        rw [sput10 hctl] at hw
        have st5 := st4.put hw
        clear hw st4 f0 f1 d1 d2
        have f0 : w6.cell? ⟨F, 0, none⟩ = some (.int .u32 seq) := by rw [cell_blk st5.fr]; rfl
        have f1 : w6.cell? ⟨F, 1, none⟩ = some (.slice (some ⟨g, off, none⟩) len cap) := by rw [cell_blk st5.fr]; rfl
        have d1 := st5.c1
        have d2 := st5.c2
        go_wp2_with fail
        refine (sput_any st5.wr P.length (by have := HPL.out; unfold U64; omega) 2 (by simp [mk_len, sep_len])).mono ?_
        rintro x w7 ⟨rfl, hw⟩
        rw [sput2 HPL.out] at hw
        have st6 := st5.put hw
        clear hw st5 f0 f1 d1 d2
        go_wp2_with fail
        refine (string_any st6.wr).mono ?_
        rintro x w8 ⟨rfl, n8, rfl⟩
        have st7 := st6.drewN n8
        clear st6
        obtain ⟨B, hB⟩ : ∃ B : ByteArray, B = ⟨(mk ++ (sep 5 seq) ++ (sep 10 cy) ++ (sep 10 ct) ++ (sep 2 P.length)).toArray⟩ := ⟨_, rfl⟩
        have hBs : B.size = 49 := by rw [hB]; show (List.toArray _).size = _; simp [mk_len, sep_len]
        have hBx : (B.extract 16 49).data.toList = frH seq cy ct P.length := by
          rw [ByteArray.data_extract, hB]
          show ((List.toArray _).extract 16 49).toList = _
          rw [Array.toList_extract]
          have e2 : (mk ++ (sep 5 seq) ++ (sep 10 cy) ++ (sep 10 ct) ++ (sep 2 P.length)).drop 16 = frH seq cy ct P.length := rfl
          show ((mk ++ (sep 5 seq) ++ (sep 10 cy) ++ (sep 10 ct) ++ (sep 2 P.length)).drop 16).take 33 = _
          rw [e2, List.take_of_length_le (by rw [frH_len]; exact Nat.le_refl _)]
        rw [← hB]
        have hBz : (B.extract 16 49).size = 33 := by rw [ByteArray.size_extract, hBs]; rfl
        clear hB
        have hT7 := hTk _ st7.bel
        have hcs := fun (x : World) (g' : Nat) (hx : IsTab x tb) (hc : x.cell? ⟨g', 0, none⟩ = some (.string (B.extract 16 49))) => csum_any x tb g' (B.extract 16 49) hx hc (by rw [hBz]; decide)
        rw [hBx] at hcs
        have hch := crcV_lt (frH seq cy ct P.length)
        generalize crcV (frH seq cy ct P.length) = ch at hcs hch HR
        generalize hcpe : crcV P = cp at hcp HR
        go_wp2_with fail
        have st8 := st7.below ((Below.refl (w7.drewN n8).heap.size (w7.drewN n8)).alloc (Nat.le_refl _) (.cells #[.string (B.extract 16 49)] 9))
        have hc8 : ((w7.drewN n8).alloc (.cells #[.string (B.extract 16 49)] 9)).cell? ⟨w7.heap.size, 0, none⟩ = some (.string (B.extract 16 49)) := cell_blk (heap_alloc_new (w7.drewN n8) _) 0
        generalize (w7.drewN n8).alloc (.cells #[.string (B.extract 16 49)] 9) = W8 at st8 hc8 ⊢
        generalize w7.heap.size = o8 at hc8 ⊢
        refine (hcs W8 o8 (hTk _ st8.bel) hc8).mono ?_
        rintro x w9 ⟨rfl, n9, rfl⟩
        have st9 := st8.drewN n9
        clear st8 st7 hc8 hcs hBx hBz hBs hT7
        go_wp2_with fail
        refine (ssum_any st9.wr ch hch (by simp [mk_len, sep_len])).mono ?_
        rintro x w10 ⟨rfl, hw⟩
        have st10 := st9.put hw
        clear hw st9
        go_wp2_with fail
        refine (text_any st10.wr S (by simp [mk_len, sep_len]; have := HPL.out; omega)).mono ?_
        rintro x w11 ⟨rfl, hw⟩
        rw [hSL] at hw
        have st11 := st10.put hw
        clear hw st10
        go_wp2_with fail
        have st12 := st11.below ((Below.refl w11.heap.size w11).alloc (Nat.le_refl _) (.cells #[.string S] 9))
        have hc12 : (w11.alloc (.cells #[.string S] 9)).cell? ⟨w11.heap.size, 0, none⟩ = some (.string S) := cell_blk (heap_alloc_new w11 _) 0
        generalize w11.alloc (.cells #[.string S] 9) = W12 at st12 hc12 ⊢
        generalize w11.heap.size = o12 at hc12 ⊢
        have hcs2 := csum_any W12 tb o12 S (hTk _ st12.bel) hc12 (by rw [hpl]; have := HPL.out; omega)
        rw [hSL, hcpe] at hcs2
        refine hcs2.mono ?_
        rintro x w13 ⟨rfl, n13, rfl⟩
        have st13 := st12.drewN n13
        clear st12 st11 hc12 hcs2 hcpe
        go_wp2_with fail
        refine (ssum_any st13.wr cp hcp (by simp [mk_len, sep_len]; have := HPL.out; omega)).mono ?_
        rintro x w14 ⟨rfl, hw⟩
        have st14 := st13.put hw
        clear hw st13
        go_wp2_with fail
        refine (string_any st14.wr).mono ?_
        rintro x w15 ⟨rfl, n15, rfl⟩
        have st15 := st14.drewN n15
        go_wp2_with fail
        go_ret2
        refine ⟨?_, st15.bel⟩
        rw [HR.out.1, HR.out.2]
        have e9 : mk ++ sep 5 seq ++ sep 10 cy ++ sep 10 ct ++ sep 2 P.length ++ sep 5 ch ++ P ++ sep 5 cp = six255 ++ frH seq cy ct P.length ++ sep 5 ch ++ P ++ sep 5 cp := by
          unfold mk frH
          simp only [List.append_assoc]
        rw [← e9]
        rfl
    · obtain ⟨r1, r2⟩ := HE.out.1 q
      have hS : prnS z len = [] := by unfold prnS; rw [if_neg q]
      have HR := Lib.hid (And.intro r1 r2)
      have zz : (prnE z len != 0) = true := by simp [q]
      clear HE r1 r2 q
      generalize (⟨(prnS z len).toArray⟩ : ByteArray) = S
      generalize prnE z len = E at zz HR ⊢
      go_wp2_with fail
      go_ret2
      exact ⟨by rw [HR.out.1, HR.out.2]; rfl, hB1⟩
end Go.Proofs.Ytbfipgeoecbpaaa
/- Contracts of frame.word, frame.sum and of the reference's. No condition but those that each names. -/
namespace Go.Proofs.Ytbfipgeoecbpaaa
open Go.RowKit
set_option maxRecDepth 20000
theorem fword_any {w : World} {b : Nat} {s : ByteArray} {p : Nat} (h : IsRd w b s p) (hp : p ≤ s.size) (hs : s.size ≤ 140737488355328) :
    Calls Try.prog 125 #[.pointer (some ⟨b, 0, none⟩)] w fun e w' => e = .returned (.tuple #[.int .u32 (wrd s p).1, .int .i64 (wrd s p).2.1]) ∧ RdPost w b s (wrd s p).2.2 w' := by
  have hg := sget_any h hp hs 5
  have hle := wrd_le s p hp
  have hlt := sget_lt s p 5
  unfold wrd at *
  generalize sget s p 5 = r at hg hle hlt ⊢
  obtain ⟨n, e, q⟩ := r
  simp only at hg hle hlt ⊢
  by_cases he : e = 0
  · have hd : ((e : Int) == 0) = true := by simp [he]
    by_cases hn : 4294967295 < n
    · have hn' : (4294967295 : Int) < n := by omega
      rw [if_pos ⟨he, hn⟩]
      clear hle hlt he
      go_enter Try.func125, Try.ntmps125
      go_wp2_with fail
      refine hg.mono ?_
      rintro x w1 ⟨rfl, hq⟩
      go_wp2_with fail
      go_ret2
      exact ⟨rfl, hq⟩
    · have hn' : ¬ (4294967295 : Int) < n := by omega
      rw [if_neg (fun x => hn x.2)]
      have HE := Lib.hid he
      have hnl : n ≤ 4294967295 := by omega
      clear hle hlt he hn
      go_enter Try.func125, Try.ntmps125
      go_wp2_with fail
      refine hg.mono ?_
      rintro x w1 ⟨rfl, hq⟩
      go_wp2_with fail
      go_ret2
      exact ⟨rfl, hq⟩
  · have hd : ((e : Int) == 0) = false := by simp [he]
    rw [if_neg (fun x => he x.1)] at hle ⊢
    simp only at hle
    clear hlt he
    go_enter Try.func125, Try.ntmps125
    go_wp2_with fail
    refine hg.mono ?_
    rintro x w1 ⟨rfl, hq⟩
    go_wp2_with fail
    go_ret2
    exact ⟨rfl, hq⟩
theorem rword_any {s : ByteArray} {p : Nat} (hp : p ≤ s.size) (hs : s.size ≤ 140737488355328) (w : World) :
    Calls Try.prog 94 #[.string s, .int .i64 p] w fun e w' => e = .returned (.tuple #[.int .u32 (wrd s p).1, .int .i64 (wrd s p).2.1, .int .i64 (wrd s p).2.2]) ∧ w = w' := by
  have hg := r4get_any hp hs 5 w
  have hle := wrd_le s p hp
  have hlt := sget_lt s p 5
  unfold wrd at *
  generalize sget s p 5 = r at hg hle hlt ⊢
  obtain ⟨n, e, q⟩ := r
  simp only at hg hle hlt ⊢
  by_cases he : e = 0
  · have hd : ((e : Int) == 0) = true := by simp [he]
    by_cases hn : 4294967295 < n
    · have hn' : (4294967295 : Int) < n := by omega
      rw [if_pos ⟨he, hn⟩]
      clear hle hlt he
      go_enter Try.func94, Try.ntmps94
      go_wp2_with fail
      refine hg.mono ?_
      rintro x w1 ⟨rfl, rfl⟩
      go_wp2_with fail
      exact bodyPost_ret (v := .tuple #[.int .u32 0, .int .i64 5, .int .i64 q]) (by simp [results, Try.results94, go_sem]) rfl ⟨rfl, rfl⟩
    · have hn' : ¬ (4294967295 : Int) < n := by omega
      rw [if_neg (fun x => hn x.2)]
      have HE := Lib.hid he
      have hnl : n ≤ 4294967295 := by omega
      clear hle hlt he hn
      go_enter Try.func94, Try.ntmps94
      go_wp2_with fail
      refine hg.mono ?_
      rintro x w1 ⟨rfl, rfl⟩
      go_wp2_with fail
      exact bodyPost_ret (v := .tuple #[.int .u32 n, .int .i64 e, .int .i64 q]) (by simp [results, Try.results94, go_sem]) rfl ⟨rfl, rfl⟩
  · have hd : ((e : Int) == 0) = false := by simp [he]
    rw [if_neg (fun x => he x.1)] at hle ⊢
    simp only at hle
    clear hlt he
    go_enter Try.func94, Try.ntmps94
    go_wp2_with fail
    refine hg.mono ?_
    rintro x w1 ⟨rfl, rfl⟩
    go_wp2_with fail
    exact bodyPost_ret (v := .tuple #[.int .u32 n, .int .i64 e, .int .i64 q]) (by simp [results, Try.results94, go_sem]) rfl ⟨rfl, rfl⟩
theorem rd_trans' {w w1 w2 : World} {b p q : Nat} {s : ByteArray} (h : RdPost w b s p w1) (k : RdPost w1 b s q w2) : RdPost w b s q w2 := ⟨k.1, h.2.trans k.2 fun _ _ x => x⟩
theorem rd_below {w w1 w2 : World} {b q : Nat} {s : ByteArray} (h : RdPost w b s q w1) (k : Below w1.heap.size w1 w2) : RdPost w b s q w2 := ⟨h.1.kept k, h.2.trans (Only.of_below k (fun _ => False)) fun _ _ x => x.elim⟩
set_option maxHeartbeats 1000000 in
theorem fsum_any {w : World} {b tb : Nat} {s : ByteArray} {p : Nat} (h : IsRd w b s p) (hp : p ≤ s.size) (hs : s.size ≤ 140737488355328) (hT : IsTab w tb) (hne : tb ≠ b) (t : ByteArray) (ht : t.size ≤ 140737488355328) :
    Calls Try.prog 111 #[.pointer (some ⟨tb, 0, none⟩), .pointer (some ⟨b, 0, none⟩), .string t] w fun e w' => e = .returned (.int .i64 (smE s p t.data.toList)) ∧ RdPost w b s (wrd s p).2.2 w' := by
  have hg := fword_any h hp hs
  unfold smE
  have hcl := crcV_lt t.data.toList
  generalize wrd s p = r at hg ⊢
  obtain ⟨n, e, q⟩ := r
  simp only at hg ⊢
  by_cases he : e = 0
  · subst he
    have hd : (((0 : Nat) : Int) == 0) = true := rfl
    have hcsg := fun x g' hx hc => csum_any x tb g' t hx hc ht
    generalize crcV t.data.toList = c at hcsg hcl ⊢
    by_cases hc : n = c
    · have hd2 : ((n : Int) != c) = false := by simp [hc]
      rw [if_neg (fun x => x.2 hc)]
      clear hc
      go_enter Try.func111, Try.ntmps111
      go_wp2_with fail
      refine hg.mono ?_
      rintro x w1 ⟨rfl, hq⟩
      have hT1 := hT.only hq.2 hne
      have hB1 := (Below.refl w1.heap.size w1).alloc (Nat.le_refl _) (.cells #[.string t] 9)
      have hT2 := hT1.kept hB1
      have hc2 : (w1.alloc (.cells #[.string t] 9)).cell? ⟨w1.heap.size, 0, none⟩ = some (.string t) := cell_blk (heap_alloc_new w1 _) 0
      have hcs := hcsg _ _ hT2 hc2
      have hq2 := rd_below hq hB1
      clear hT hT1 hT2 hc2 hcsg
      go_wp2_with (go_at_call 74; (refine hcs.mono ?_); rintro x0 w3 ⟨rfl, n3, rfl⟩)
      go_ret
      exact ⟨rfl, rd_below hq2 (kept_drewN _ _)⟩
    · have hd2 : ((n : Int) != c) = true := by simp; omega
      rw [if_pos ⟨rfl, hc⟩]
      clear hc
      go_enter Try.func111, Try.ntmps111
      go_wp2_with fail
      refine hg.mono ?_
      rintro x w1 ⟨rfl, hq⟩
      have hT1 := hT.only hq.2 hne
      have hB1 := (Below.refl w1.heap.size w1).alloc (Nat.le_refl _) (.cells #[.string t] 9)
      have hT2 := hT1.kept hB1
      have hc2 : (w1.alloc (.cells #[.string t] 9)).cell? ⟨w1.heap.size, 0, none⟩ = some (.string t) := cell_blk (heap_alloc_new w1 _) 0
      have hcs := hcsg _ _ hT2 hc2
      have hq2 := rd_below hq hB1
      clear hT hT1 hT2 hc2 hcsg
      go_wp2_with (go_at_call 74; (refine hcs.mono ?_); rintro x0 w3 ⟨rfl, n3, rfl⟩)
      go_ret
      exact ⟨rfl, rd_below hq2 (kept_drewN _ _)⟩
  · have hd : ((e : Int) == 0) = false := by simp [he]
    rw [if_neg (fun x => he x.1)]
    clear he
    go_enter Try.func111, Try.ntmps111
    go_wp2_with fail
    refine hg.mono ?_
    rintro x w1 ⟨rfl, hq⟩
    go_wp2_with fail
    go_ret
    exact ⟨rfl, hq⟩
set_option maxHeartbeats 1000000 in
theorem rsm_any {s : ByteArray} {p : Nat} (hp : p ≤ s.size) (hs : s.size ≤ 140737488355328) (t : ByteArray) (ht : t.size ≤ 140737488355328) (w : World) :
    Calls Try.prog 96 #[.string s, .int .i64 p, .string t] w fun e w' => e = .returned (.tuple #[.int .i64 (smE s p t.data.toList), .int .i64 (wrd s p).2.2]) ∧ ∃ n, w.drewN n = w' := by
  have hg := rword_any hp hs w
  have hcs := fun x => rsum_any t ht x
  unfold smE
  generalize wrd s p = r at hg ⊢
  obtain ⟨n, e, q⟩ := r
  simp only at hg ⊢
  by_cases he : e = 0
  · subst he
    have hd : (((0 : Nat) : Int) == 0) = true := rfl
    generalize crcV t.data.toList = c at hcs ⊢
    by_cases hc : n = c
    · have hd2 : ((n : Int) != c) = false := by simp [hc]
      rw [if_neg (fun x => x.2 hc)]
      clear hc
      go_enter Try.func96, Try.ntmps96
      go_wp2_with fail
      refine hg.mono ?_
      rintro x w1 ⟨rfl, rfl⟩
      go_wp2_with (go_at_call 91; (refine (hcs _).mono ?_); rintro x0 w3 ⟨rfl, n3, rfl⟩)
      go_ret2
      exact ⟨rfl, _, rfl⟩
    · have hd2 : ((n : Int) != c) = true := by simp; omega
      rw [if_pos ⟨rfl, hc⟩]
      clear hc
      go_enter Try.func96, Try.ntmps96
      go_wp2_with fail
      refine hg.mono ?_
      rintro x w1 ⟨rfl, rfl⟩
      go_wp2_with (go_at_call 91; (refine (hcs _).mono ?_); rintro x0 w3 ⟨rfl, n3, rfl⟩)
      go_ret2
      exact ⟨rfl, _, rfl⟩
  · have hd : ((e : Int) == 0) = false := by simp [he]
    rw [if_neg (fun x => he x.1)]
    clear he
    go_enter Try.func96, Try.ntmps96
    go_wp2_with fail
    refine hg.mono ?_
    rintro x w1 ⟨rfl, rfl⟩
    go_wp2_with fail
    go_ret2
    exact ⟨rfl, 0, rfl⟩
end Go.Proofs.Ytbfipgeoecbpaaa
/- Contract of frame.header. No condition but those that it names. (Printed by gen_frh.py.) -/
namespace Go.Proofs.Ytbfipgeoecbpaaa
open Go.RowKit
set_option maxRecDepth 20000
structure HSt (w : World) (r o : Nat) (s : ByteArray) (q a b c d : Nat) (wr : World) : Prop where
  rd : IsRd wr r s q
  on : Only (fun k => k = r) w wr
  co : wr.heap[o]? = some (.cells #[.int .u32 a, .int .u64 b, .int .u64 c, .int .i64 d] 173 (0, 0))
  ro : o ≠ r
  lo : w.heap.size ≤ o
theorem HSt.read {w : World} {r o : Nat} {s : ByteArray} {q q' a b c d : Nat} {wr w2 : World} (h : HSt w r o s q a b c d wr) (k : RdPost wr r s q' w2) : HSt w r o s q' a b c d w2 :=
  { h with rd := k.1, on := h.on.trans k.2 fun _ _ x => x, co := k.2.keeps h.co h.ro }
theorem HSt.below {w : World} {r o : Nat} {s : ByteArray} {q a b c d : Nat} {wr w2 : World} (h : HSt w r o s q a b c d wr) (k : Below wr.heap.size wr w2) : HSt w r o s q a b c d w2 :=
  { h with rd := h.rd.kept k, on := h.on.trans (Only.of_below k (fun _ => False)) fun _ _ x => x.elim, co := (k.block _ (blk_lt h.co)).trans h.co }
theorem HSt.drew {w : World} {r o : Nat} {s : ByteArray} {q a b c d : Nat} {wr w2 : World} (h : HSt w r o s q a b c d wr) (k : ∃ n, wr.drewN n = w2) : HSt w r o s q a b c d w2 := by
  obtain ⟨n, rfl⟩ := k
  exact h.below (kept_drewN wr n)
theorem HSt.store {w : World} {r o : Nat} {s : ByteArray} {q a b c d a' b' c' d' : Nat} {wr : World} (h : HSt w r o s q a b c d wr) (i : Nat) (v : Value)
    (he : (#[Value.int .u32 a, .int .u64 b, .int .u64 c, .int .i64 d] : Array Value).setIfInBounds i v = #[.int .u32 a', .int .u64 b', .int .u64 c', .int .i64 d']) : HSt w r o s q a' b' c' d' (wr.setCell ⟨o, i, none⟩ v) :=
  { h with
    rd := blk_setCell_other (p := ⟨o, i, none⟩) h.rd h.ro.symm v
    on := h.on.setCell ⟨o, i, none⟩ v fun hx => absurd hx (Nat.not_lt.2 h.lo)
    co := by rw [← he]; exact blk_setCell h.co (i := i) v }
theorem HSt.cells {w : World} {r o : Nat} {s : ByteArray} {q a b c d : Nat} {wr : World} (h : HSt w r o s q a b c d wr) : wr.cell? ⟨o, 0, none⟩ = some (.int .u32 a) ∧ wr.cell? ⟨o, 1, none⟩ = some (.int .u64 b) ∧ wr.cell? ⟨o, 2, none⟩ = some (.int .u64 c) ∧ wr.cell? ⟨o, 3, none⟩ = some (.int .i64 d) := by
  refine ⟨?_, ?_, ?_, ?_⟩ <;> (rw [cell_blk h.co]; rfl)
theorem HSt.again {w : World} {r o : Nat} {s : ByteArray} {q a b c d : Nat} {wr : World} (h : HSt w r o s q a b c d wr) :
    HSt w r o s q a b c d ((((wr.setCell ⟨o, 0, none⟩ (.int .u32 a)).setCell ⟨o, 1, none⟩ (.int .u64 b)).setCell ⟨o, 2, none⟩ (.int .u64 c)).setCell ⟨o, 3, none⟩ (.int .i64 d)) :=
  (((h.store 0 (.int .u32 a) rfl).store 1 (.int .u64 b) rfl).store 2 (.int .u64 c) rfl).store 3 (.int .i64 d) rfl
theorem HSt.all {w : World} {r o : Nat} {s : ByteArray} {q a b c d : Nat} {wr : World} (h : HSt w r o s q a b c d wr) :
    wr.cell? ⟨o, 0, none⟩ = some (.int .u32 a) ∧ wr.cell? ⟨o, 1, none⟩ = some (.int .u64 b) ∧ wr.cell? ⟨o, 2, none⟩ = some (.int .u64 c) ∧ wr.cell? ⟨o, 3, none⟩ = some (.int .i64 d) ∧ wr.frozen? ⟨o, 0, none⟩ = false ∧ wr.frozen? ⟨o, 1, none⟩ = false ∧ wr.frozen? ⟨o, 2, none⟩ = false ∧ wr.frozen? ⟨o, 3, none⟩ = false :=
  ⟨h.cells.1, h.cells.2.1, h.cells.2.2.1, h.cells.2.2.2, frozen_blk h.co 0, frozen_blk h.co 1, frozen_blk h.co 2, frozen_blk h.co 3⟩
/-- What header answers. -/
def HdPost (w : World) (r : Nat) (s : ByteArray) (p : Nat) (x : Ending) (w' : World) : Prop :=
  ∃ (a b c d q : Nat), x = .returned (.tuple #[.agg #[.int .u32 a, .int .u64 b, .int .u64 c, .int .i64 d], .int .i64 (fhE s p)]) ∧ (fhE s p = 0 → a = (fh1 s p).1 ∧ b = (fh2 s p).1 ∧ c = (fh3 s p).1 ∧ d = (fh4 s p).1 ∧ q = fhQ s p) ∧ IsRd w' r s q ∧ q ≤ s.size ∧ Only (fun k => k = r) w w'
theorem hd_out {w : World} {r o : Nat} {s : ByteArray} {q a b c d p : Nat} {wr : World} {er : Nat} {X : Int} (h : HSt w r o s q a b c d wr) (hq : q ≤ s.size) (hE : fhE s p = er) (hX : X = er) (h0 : er = 0 → a = (fh1 s p).1 ∧ b = (fh2 s p).1 ∧ c = (fh3 s p).1 ∧ d = (fh4 s p).1 ∧ q = fhQ s p) (w' : World)
    (h4 : w' = (((wr.setCell ⟨o, 0, none⟩ (.int .u32 a)).setCell ⟨o, 1, none⟩ (.int .u64 b)).setCell ⟨o, 2, none⟩ (.int .u64 c)).setCell ⟨o, 3, none⟩ (.int .i64 d)) :
    HdPost w r s p (.returned (.tuple #[.agg #[.int .u32 a, .int .u64 b, .int .u64 c, .int .i64 d], .int .i64 X])) w' := by
  subst h4 hX
  have k := (((h.store 0 (.int .u32 a) rfl).store 1 (.int .u64 b) rfl).store 2 (.int .u64 c) rfl).store 3 (.int .i64 d) (a' := a) (b' := b) (c' := c) (d' := d) rfl
  exact ⟨a, b, c, d, q, by rw [hE], fun x => h0 (hE.symm.trans x), k.rd, hq, k.on⟩
theorem sget_ge (s : ByteArray) (p : Nat) (c : Int) (hp : p ≤ s.size) : p ≤ (sget s p c).2.2 := by
  unfold sget
  split
  · exact Nat.le_refl _
  · have h := sgo_next s p c.toNat 0 0 hp (by omega)
    by_cases e : (sgo s p c.toNat 0 0).2.1 = 0
    · rw [h.2.2 e]; omega
    · rw [(h.2.1 e).2]; exact Nat.le_refl _
theorem wrd_ge (s : ByteArray) (p : Nat) (hp : p ≤ s.size) : p ≤ (wrd s p).2.2 := by
  unfold wrd
  split
  · exact sget_ge s p 5 hp
  · exact sget_ge s p 5 hp
theorem mk_size : (⟨mk.toArray⟩ : ByteArray).size = 22 := rfl
theorem mk_any (w : World) : Calls Try.prog 71 #[] w fun e w' => e = .returned (.string ⟨mk.toArray⟩) ∧ Below w.heap.size w w' := marker_any w
theorem agree_le (s : ByteArray) (p : Nat) (_hp : p ≤ s.size) : agree s p ⟨mk.toArray⟩ ≤ 22 ∧ agree s p ⟨mk.toArray⟩ ≤ s.size - p := by
  have h := agrL_le mk (s.data.toList.drop p)
  have h2 : (s.data.toList.drop p).length = s.size - p := by simp
  rw [h2] at h
  exact h
set_option maxHeartbeats 8000000 in
theorem header_any {w : World} {r tb : Nat} {s : ByteArray} {p : Nat} (h : IsRd w r s p) (hp : p ≤ s.size) (hs : s.size ≤ 140737488355328) (hT : IsTab w tb) (hne : tb ≠ r) :
    Calls Try.prog 109 #[.pointer (some ⟨tb, 0, none⟩), .string s, .pointer (some ⟨r, 0, none⟩)] w (HdPost w r s p) := by
  have hrl := blk_lt h
  have st0 : HSt w r w.heap.size s p 0 0 0 0 (w.alloc (.cells #[.int .u32 0, .int .u64 0, .int .u64 0, .int .i64 0] 173)) :=
    { rd := h.only ((Only.refl (fun _ => False) w).alloc _) (fun x => x)
      on := (Only.refl _ w).alloc _
      co := heap_alloc_new w _
      ro := by omega
      lo := Nat.le_refl _ }
  have HTK := Lib.hid (fun (wk : World) (o : Only (fun k => k = r) w wk) => hT.only o hne)
  have HPS := Lib.hid hp
  obtain ⟨hag, hag2⟩ := agree_le s p hp
  clear h hT
  go_enter Try.func109, Try.ntmps109
  go_wp2_with fail
  generalize w.alloc (.cells #[.int .u32 0, .int .u64 0, .int .u64 0, .int .i64 0] 173) = W0 at st0 ⊢
  obtain ⟨o, ho⟩ : ∃ o, o = w.heap.size := ⟨_, rfl⟩
  rw [← ho] at st0 ⊢
  clear ho
  refine (mk_any _).mono ?_
  rintro x w1 ⟨rfl, hk⟩
  have st1 := st0.below hk
  clear hk st0
  have hMs := mk_size
  have HAG := Lib.hid (show agree s p ⟨mk.toArray⟩ = agree s p ⟨mk.toArray⟩ from rfl)
  have hag3 := fun x (h : IsRd x r s p) => agree_any h hp hs ⟨mk.toArray⟩ (by decide)
  have HE0 := Lib.hid (show fhE s p = if agree s p ⟨mk.toArray⟩ < 22 then (if agree s p ⟨mk.toArray⟩ = s.size - p then 2 else 3)
    else if (fh1 s p).2.1 ≠ 0 then (fh1 s p).2.1 else if (fh2 s p).2.1 ≠ 0 then (fh2 s p).2.1 else if (fh3 s p).2.1 ≠ 0 then (fh3 s p).2.1 else if (fh4 s p).2.1 ≠ 0 then (fh4 s p).2.1
    else if (fh4 s p).1 < 1 ∨ 120 < (fh4 s p).1 then 4 else smE s (fh4 s p).2.2 (fhB s p) from rfl)
  clear HAG
  generalize agree s p ⟨mk.toArray⟩ = ag at hag hag2 hag3 HE0
  generalize (⟨mk.toArray⟩ : ByteArray) = M at hMs hag3 ⊢
  go_wp2_with fail
  refine (hag3 _ st1.rd).mono ?_
  rintro x w2 ⟨rfl, hn2⟩
  have st2 := st1.drew hn2
  clear st1 hag3 hn2
  have hlf := left_any st2.rd hp hs
  by_cases c0 : ag < 22
  · have d0 : (ag : Int) < 22 := by omega
    by_cases c1 : ag = s.size - p
    · have d1 : ((ag : Int) == (s.size : Int) - p) = true := eqb_t (by omega)
      have HE := Lib.hid (show fhE s p = 2 by rw [HE0.out, if_pos c0, if_pos c1])
      have C1 := Lib.hid c1
      clear HE0 c1 c0
      go_wp2_with fail
      refine hlf.mono ?_
      rintro x w3 ⟨rfl, hn3⟩
      have st3 := st2.drew hn3
      clear st2 hn3 hlf
      obtain ⟨y0, y1, y2, y3⟩ := st3.cells
      have yf0 := frozen_blk st3.co 0
      have yf1 := frozen_blk st3.co 1
      have yf2 := frozen_blk st3.co 2
      have yf3 := frozen_blk st3.co 3
      go_wp2_with fail
      exact bodyPost_ret (v := .tuple #[.agg #[.int .u32 (0 : Nat), .int .u64 (0 : Nat), .int .u64 (0 : Nat), .int .i64 (0 : Nat)], .int .i64 2]) (by simp [results, Try.results109, go_sem, y0, y1, y2, y3]) rfl (hd_out st3 hp HE.out rfl (fun x => by cases x) _ rfl)
    · have d1 : ((ag : Int) == (s.size : Int) - p) = false := eqb_f (by omega)
      have HE := Lib.hid (show fhE s p = 3 by rw [HE0.out, if_pos c0, if_neg c1])
      clear HE0 c1 c0
      go_wp2_with fail
      refine hlf.mono ?_
      rintro x w3 ⟨rfl, hn3⟩
      have st3 := st2.drew hn3
      clear st2 hn3 hlf
      obtain ⟨y0, y1, y2, y3⟩ := st3.cells
      have yf0 := frozen_blk st3.co 0
      have yf1 := frozen_blk st3.co 1
      have yf2 := frozen_blk st3.co 2
      have yf3 := frozen_blk st3.co 3
      go_wp2_with fail
      exact bodyPost_ret (v := .tuple #[.agg #[.int .u32 (0 : Nat), .int .u64 (0 : Nat), .int .u64 (0 : Nat), .int .i64 (0 : Nat)], .int .i64 3]) (by simp [results, Try.results109, go_sem, y0, y1, y2, y3]) rfl (hd_out st3 hp HE.out rfl (fun x => by cases x) _ rfl)
  · obtain rfl : ag = 22 := by omega
    have hp22 : p + 22 ≤ s.size := by omega
    have HE1 := Lib.hid (HE0.out.trans (if_neg (by decide)))
    have htk : tk s p 22 = (s.extract p (p + 22), 0, p + 22) := by
      unfold tk
      rw [if_neg (by decide), if_neg (by omega)]
      rfl
    clear HE0 c0 hlf hag hag2
    have hat := at_any st2.rd
    go_wp2_with fail
    refine hat.mono ?_
    rintro x w3 ⟨rfl, hn3⟩
    have st3 := st2.drew hn3
    clear hat st2 hn3
    have htake := take_any st3.rd hp hs 22
    rw [htk] at htake
    clear htk
    go_wp2_with fail
    refine htake.mono ?_
    rintro x w4 ⟨rfl, hq⟩
    have st4 := st3.read hq
    clear htake st3 hq
    have hcall := fword_any st4.rd hp22 hs
    have hfe : wrd s (p + 22) = fh1 s p := rfl
    have hnx := wrd_next s _ hp22
    rw [hfe] at hcall hnx
    clear hfe
    have hvl : (fh1 s p).1 ≤ 4294967295 := wrd_le s _ hp22
    obtain ⟨⟨v1, er1, q1⟩, hh⟩ : ∃ t, t = fh1 s p := ⟨_, rfl⟩
    rw [← hh] at hcall hnx hvl
    simp only at hcall hnx hvl
    have H1 := Lib.hid hh
    have q1le : q1 ≤ s.size := hnx
    clear hh hnx
    obtain ⟨y0, y1, y2, y3⟩ := st4.cells
    have yf0 := frozen_blk st4.co 0
    have yf1 := frozen_blk st4.co 1
    have yf2 := frozen_blk st4.co 2
    have yf3 := frozen_blk st4.co 3
    go_wp2_with fail
    refine hcall.mono ?_
    rintro x w5 ⟨rfl, hq⟩
    have st5r := st4.read hq
    clear hcall hq y0 y1 y2 y3 yf0 yf1 yf2 yf3 st4
    obtain ⟨y0, y1, y2, y3⟩ := st5r.cells
    have yf0 := frozen_blk st5r.co 0
    have yf1 := frozen_blk st5r.co 1
    have yf2 := frozen_blk st5r.co 2
    have yf3 := frozen_blk st5r.co 3
    have st5 : HSt w r o s q1 v1 (0 : Nat) (0 : Nat) (0 : Nat) (w5.setCell ⟨o, 0, none⟩ (.int .u32 v1)) := st5r.store 0 (.int .u32 v1) rfl
    by_cases z1 : er1 = 0
    · have zz : ((er1 : Int) != 0) = false := by simp [z1]
      have Z1 := Lib.hid z1
      clear z1
      have hcall := sget_any st5.rd q1le hs 10
      have hfe : sget s q1 10 = fh2 s p := by unfold fh2; rw [← H1.out]
      have hnx := (sget_next s _ 10 q1le).1
      rw [hfe] at hcall hnx
      clear hfe
      have hvl : (fh2 s p).1 < U64 := sget_lt s _ 10
      obtain ⟨⟨v2, er2, q2⟩, hh⟩ : ∃ t, t = fh2 s p := ⟨_, rfl⟩
      rw [← hh] at hcall hnx hvl
      simp only at hcall hnx hvl
      have H2 := Lib.hid hh
      have q2le : q2 ≤ s.size := hnx
      clear hh hnx
      obtain ⟨y0, y1, y2, y3⟩ := st5.cells
      have yf0 := frozen_blk st5.co 0
      have yf1 := frozen_blk st5.co 1
      have yf2 := frozen_blk st5.co 2
      have yf3 := frozen_blk st5.co 3
      go_wp2_with fail
      refine hcall.mono ?_
      rintro x w6 ⟨rfl, hq⟩
      have st6r := st5.read hq
      clear hcall hq y0 y1 y2 y3 yf0 yf1 yf2 yf3 st5
      obtain ⟨y0, y1, y2, y3⟩ := st6r.cells
      have yf0 := frozen_blk st6r.co 0
      have yf1 := frozen_blk st6r.co 1
      have yf2 := frozen_blk st6r.co 2
      have yf3 := frozen_blk st6r.co 3
      have st6 : HSt w r o s q2 v1 v2 (0 : Nat) (0 : Nat) (w6.setCell ⟨o, 1, none⟩ (.int .u64 v2)) := st6r.store 1 (.int .u64 v2) rfl
      by_cases z2 : er2 = 0
      · have zz : ((er2 : Int) != 0) = false := by simp [z2]
        have Z2 := Lib.hid z2
        clear z2
        have hcall := sget_any st6.rd q2le hs 10
        have hfe : sget s q2 10 = fh3 s p := by unfold fh3; rw [← H2.out]
        have hnx := (sget_next s _ 10 q2le).1
        rw [hfe] at hcall hnx
        clear hfe
        have hvl : (fh3 s p).1 < U64 := sget_lt s _ 10
        obtain ⟨⟨v3, er3, q3⟩, hh⟩ : ∃ t, t = fh3 s p := ⟨_, rfl⟩
        rw [← hh] at hcall hnx hvl
        simp only at hcall hnx hvl
        have H3 := Lib.hid hh
        have q3le : q3 ≤ s.size := hnx
        clear hh hnx
        obtain ⟨y0, y1, y2, y3⟩ := st6.cells
        have yf0 := frozen_blk st6.co 0
        have yf1 := frozen_blk st6.co 1
        have yf2 := frozen_blk st6.co 2
        have yf3 := frozen_blk st6.co 3
        go_wp2_with fail
        refine hcall.mono ?_
        rintro x w7 ⟨rfl, hq⟩
        have st7r := st6.read hq
        clear hcall hq y0 y1 y2 y3 yf0 yf1 yf2 yf3 st6
        obtain ⟨y0, y1, y2, y3⟩ := st7r.cells
        have yf0 := frozen_blk st7r.co 0
        have yf1 := frozen_blk st7r.co 1
        have yf2 := frozen_blk st7r.co 2
        have yf3 := frozen_blk st7r.co 3
        have st7 : HSt w r o s q3 v1 v2 v3 (0 : Nat) (w7.setCell ⟨o, 2, none⟩ (.int .u64 v3)) := st7r.store 2 (.int .u64 v3) rfl
        by_cases z3 : er3 = 0
        · have zz : ((er3 : Int) != 0) = false := by simp [z3]
          have Z3 := Lib.hid z3
          clear z3
          have hcall := sget_any st7.rd q3le hs 2
          have hfe : sget s q3 2 = fh4 s p := by unfold fh4; rw [← H3.out]
          have hnx := (sget_next s _ 2 q3le).1
          rw [hfe] at hcall hnx
          clear hfe
          have hvl : (fh4 s p).1 < U64 := sget_lt s _ 2
          obtain ⟨⟨v4, er4, q4⟩, hh⟩ : ∃ t, t = fh4 s p := ⟨_, rfl⟩
          rw [← hh] at hcall hnx hvl
          simp only at hcall hnx hvl
          have H4 := Lib.hid hh
          have q4le : q4 ≤ s.size := hnx
          clear hh hnx
          obtain ⟨y0, y1, y2, y3⟩ := st7.cells
          have yf0 := frozen_blk st7.co 0
          have yf1 := frozen_blk st7.co 1
          have yf2 := frozen_blk st7.co 2
          have yf3 := frozen_blk st7.co 3
          go_wp2_with fail
          refine hcall.mono ?_
          rintro x w8 ⟨rfl, hq⟩
          have st8r := st7.read hq
          clear hcall hq y0 y1 y2 y3 yf0 yf1 yf2 yf3 st7
          obtain ⟨y0, y1, y2, y3⟩ := st8r.cells
          have yf0 := frozen_blk st8r.co 0
          have yf1 := frozen_blk st8r.co 1
          have yf2 := frozen_blk st8r.co 2
          have yf3 := frozen_blk st8r.co 3
          have st8 := st8r
          by_cases z4 : er4 = 0
          · have zz : ((er4 : Int) != 0) = false := by simp [z4]
            have Z4 := Lib.hid z4
            clear z4
            have g1 := sget_ge s q3 2 q3le
            have g2 := sget_ge s q2 10 q2le
            have g3 := sget_ge s q1 10 q1le
            have g4 := wrd_ge s (p + 22) hp22
            have gq : p + 16 ≤ q4 := by
              have e1 : (wrd s (p + 22)).2.2 = q1 := (congrArg (fun x => x.2.2) H1.out).symm
              have e2 : (sget s q1 10).2.2 = q2 := by have := (congrArg (fun x => x.2.2) H2.out).symm; unfold fh2 at this; rw [← H1.out] at this; exact this
              have e3 : (sget s q2 10).2.2 = q3 := by have := (congrArg (fun x => x.2.2) H3.out).symm; unfold fh3 at this; rw [← H2.out] at this; exact this
              have e4 : (sget s q3 2).2.2 = q4 := by have := (congrArg (fun x => x.2.2) H4.out).symm; unfold fh4 at this; rw [← H3.out] at this; exact this
              omega
            clear g1 g2 g3 g4
            have HX : Hid (fhE s p = if v4 < 1 ∨ 120 < v4 then 4 else smE s q4 (fhB s p)) := Lib.hid (by rw [HE1.out, if_neg (by rw [← H1.out]; exact not_not_intro Z1.out), if_neg (by rw [← H2.out]; exact not_not_intro Z2.out), if_neg (by rw [← H3.out]; exact not_not_intro Z3.out), if_neg (by rw [← H4.out]; exact not_not_intro Z4.out), ← H4.out])
            by_cases zb : v4 < 1 ∨ 120 < v4
            · have HEx := Lib.hid (And.intro (show fhE s p = 4 by rw [HX.out, if_pos zb]) (show (4 : Nat) ≠ 0 by decide))
              rcases zb with zb | zb
              · have b1 : (v4 : Int) < 1 := by omega
                go_wp2_with fail
                exact bodyPost_ret (v := .tuple #[.agg #[.int .u32 v1, .int .u64 v2, .int .u64 v3, .int .i64 (0 : Nat)], .int .i64 4]) (by simp [results, Try.results109, go_sem, y0, y1, y2, y3]) rfl (hd_out st8 q4le HEx.out.1 rfl (fun x => absurd x HEx.out.2) _ rfl)
              · have b1 : ¬ (v4 : Int) < 1 := by omega
                have b2 : (120 : Int) < v4 := by omega
                go_wp2_with fail
                exact bodyPost_ret (v := .tuple #[.agg #[.int .u32 v1, .int .u64 v2, .int .u64 v3, .int .i64 (0 : Nat)], .int .i64 4]) (by simp [results, Try.results109, go_sem, y0, y1, y2, y3]) rfl (hd_out st8 q4le HEx.out.1 rfl (fun x => absurd x HEx.out.2) _ rfl)
            · have b1 : ¬ (v4 : Int) < 1 := by omega
              have b2 : ¬ (120 : Int) < v4 := by omega
              have hv4 : v4 ≤ 120 := by omega
              have HX2 := Lib.hid (HX.out.trans (if_neg zb))
              have st9 : HSt w r o s q4 v1 v2 v3 v4 (w8.setCell ⟨o, 3, none⟩ (.int .i64 v4)) := st8.store 3 (.int .i64 v4) rfl
              clear HX zb
              go_upto_region 24 with fail
              clear y0 y1 y2 y3 yf0 yf1 yf2 yf3 st8 st8r b1 b2
              generalize w8.setCell ⟨o, 3, none⟩ (.int .i64 v4) = W9 at st9 ⊢
              have hTn := HTK.out _ st9.on
              have hat := at_any (w := W9.drew) (b := r) (s := s) (k := q4) st9.rd
              have hxs : (s.extract (p + 16) q4).size ≤ 140737488355328 := by rw [ByteArray.size_extract]; omega
              have hfs := fun n => fsum_any (w := W9.drewN n) (b := r) (tb := tb) (s := s) (p := q4) st9.rd q4le hs hTn hne (s.extract (p + 16) q4) hxs
              have hB4 : fhB s p = (s.extract (p + 16) q4).data.toList := by unfold fhB; rw [← H4.out]
              have HX3 := Lib.hid (show fhE s p = smE s q4 (s.extract (p + 16) q4).data.toList by rw [HX2.out, hB4])
              clear hB4 HX2
              generalize smE s q4 (s.extract (p + 16) q4).data.toList = e6 at hfs HX3
              have HQ4 := Lib.hid (show (wrd s q4).2.2 = fhQ s p by unfold fhQ; rw [← H4.out])
              have hq6 := wrd_next s q4 q4le
              generalize (wrd s q4).2.2 = q6 at hfs HQ4 hq6
              obtain ⟨y0, y1, y2, y3⟩ := st9.cells
              have H := And.intro y0 (And.intro y1 (And.intro y2 (And.intro y3 (And.intro (frozen_blk st9.co 0) (And.intro (frozen_blk st9.co 1) (And.intro (frozen_blk st9.co 2) (frozen_blk st9.co 3)))))))
              clear y0 y1 y2 y3
              have gqi : (p : Int) + 16 ≤ q4 := by omega
              have gqs : (q4 : Int) ≤ s.size := by omega
              have gq0 : (0 : Int) ≤ (p : Int) + 16 := by omega
              have gqn : ((p : Int) + 16).toNat = p + 16 := by omega
              have gq4 : (0 : Int) ≤ (q4 : Int) := by omega
              go_region_held3 (fun w' => w'.cell? ⟨o, 0, none⟩ = some (.int .u32 v1) ∧ w'.cell? ⟨o, 1, none⟩ = some (.int .u64 v2) ∧ w'.cell? ⟨o, 2, none⟩ = some (.int .u64 v3) ∧ w'.cell? ⟨o, 3, none⟩ = some (.int .i64 v4) ∧ w'.frozen? ⟨o, 0, none⟩ = false ∧ w'.frozen? ⟨o, 1, none⟩ = false ∧ w'.frozen? ⟨o, 2, none⟩ = false ∧ w'.frozen? ⟨o, 3, none⟩ = false) (first | exact H | exact H2c | exact H3c | exact st12.again.all) (first | (go_at_call 113; (refine hat.mono ?_); rintro x w11 ⟨rfl, n11, rfl⟩; have H2c : (W9.drew.drewN n11).cell? ⟨o, 0, none⟩ = some (.int .u32 v1) ∧ (W9.drew.drewN n11).cell? ⟨o, 1, none⟩ = some (.int .u64 v2) ∧ (W9.drew.drewN n11).cell? ⟨o, 2, none⟩ = some (.int .u64 v3) ∧ (W9.drew.drewN n11).cell? ⟨o, 3, none⟩ = some (.int .i64 v4) ∧ (W9.drew.drewN n11).frozen? ⟨o, 0, none⟩ = false ∧ (W9.drew.drewN n11).frozen? ⟨o, 1, none⟩ = false ∧ (W9.drew.drewN n11).frozen? ⟨o, 2, none⟩ = false ∧ (W9.drew.drewN n11).frozen? ⟨o, 3, none⟩ = false := H) | (go_at_call 111; (refine (hfs (1 + n11)).mono ?_); rintro x w12 ⟨rfl, hq12⟩; have st12 : HSt w r o s _ v1 v2 v3 v4 w12 := (st9.below (kept_drewN W9 (1 + n11))).read hq12; have H3c : w12.cell? ⟨o, 0, none⟩ = some (.int .u32 v1) ∧ w12.cell? ⟨o, 1, none⟩ = some (.int .u64 v2) ∧ w12.cell? ⟨o, 2, none⟩ = some (.int .u64 v3) ∧ w12.cell? ⟨o, 3, none⟩ = some (.int .i64 v4) ∧ w12.frozen? ⟨o, 0, none⟩ = false ∧ w12.frozen? ⟨o, 1, none⟩ = false ∧ w12.frozen? ⟨o, 2, none⟩ = false ∧ w12.frozen? ⟨o, 3, none⟩ = false := ⟨st12.cells.1, st12.cells.2.1, st12.cells.2.2.1, st12.cells.2.2.2, frozen_blk st12.co 0, frozen_blk st12.co 1, frozen_blk st12.co 2, frozen_blk st12.co 3⟩))
              clear H H2c H3c hat hfs gqi gqs gq0 gqn gq4
              obtain ⟨y0, y1, y2, y3⟩ := st12.cells
              go_wp2_with fail
              exact bodyPost_ret (v := .tuple #[.agg #[.int .u32 v1, .int .u64 v2, .int .u64 v3, .int .i64 v4], .int .i64 e6]) (by simp [results, Try.results109, go_sem, y0, y1, y2, y3]) rfl (hd_out st12 hq6 HX3.out rfl (fun _ => ⟨by rw [← H1.out], by rw [← H2.out], by rw [← H3.out], by rw [← H4.out], HQ4.out⟩) _ rfl)
          · have zz : ((er4 : Int) != 0) = true := by simp [z4]
            have HEx := Lib.hid (And.intro (show fhE s p = er4 by rw [HE1.out, if_neg (by rw [← H1.out]; exact not_not_intro Z1.out), if_neg (by rw [← H2.out]; exact not_not_intro Z2.out), if_neg (by rw [← H3.out]; exact not_not_intro Z3.out), if_pos (by rw [← H4.out]; exact z4), ← H4.out]) z4)
            clear HE1 z4
            go_wp2_with fail
            exact bodyPost_ret (v := .tuple #[.agg #[.int .u32 v1, .int .u64 v2, .int .u64 v3, .int .i64 (0 : Nat)], .int .i64 er4]) (by simp [results, Try.results109, go_sem, y0, y1, y2, y3]) rfl (hd_out st8 q4le HEx.out.1 rfl (fun x => absurd x HEx.out.2) _ rfl)
        · have zz : ((er3 : Int) != 0) = true := by simp [z3]
          have HEx := Lib.hid (And.intro (show fhE s p = er3 by rw [HE1.out, if_neg (by rw [← H1.out]; exact not_not_intro Z1.out), if_neg (by rw [← H2.out]; exact not_not_intro Z2.out), if_pos (by rw [← H3.out]; exact z3), ← H3.out]) z3)
          clear HE1 z3
          clear y0 y1 y2 y3 yf0 yf1 yf2 yf3
          obtain ⟨y0, y1, y2, y3⟩ := st7r.cells
          have yf0 := frozen_blk st7r.co 0
          have yf1 := frozen_blk st7r.co 1
          have yf2 := frozen_blk st7r.co 2
          have yf3 := frozen_blk st7r.co 3
          go_wp2_with fail
          exact bodyPost_ret (v := .tuple #[.agg #[.int .u32 v1, .int .u64 v2, .int .u64 v3, .int .i64 (0 : Nat)], .int .i64 er3]) (by simp [results, Try.results109, go_sem, y0, y1, y2, y3]) rfl (hd_out st7 q3le HEx.out.1 rfl (fun x => absurd x HEx.out.2) _ rfl)
      · have zz : ((er2 : Int) != 0) = true := by simp [z2]
        have HEx := Lib.hid (And.intro (show fhE s p = er2 by rw [HE1.out, if_neg (by rw [← H1.out]; exact not_not_intro Z1.out), if_pos (by rw [← H2.out]; exact z2), ← H2.out]) z2)
        clear HE1 z2
        clear y0 y1 y2 y3 yf0 yf1 yf2 yf3
        obtain ⟨y0, y1, y2, y3⟩ := st6r.cells
        have yf0 := frozen_blk st6r.co 0
        have yf1 := frozen_blk st6r.co 1
        have yf2 := frozen_blk st6r.co 2
        have yf3 := frozen_blk st6r.co 3
        go_wp2_with fail
        exact bodyPost_ret (v := .tuple #[.agg #[.int .u32 v1, .int .u64 v2, .int .u64 (0 : Nat), .int .i64 (0 : Nat)], .int .i64 er2]) (by simp [results, Try.results109, go_sem, y0, y1, y2, y3]) rfl (hd_out st6 q2le HEx.out.1 rfl (fun x => absurd x HEx.out.2) _ rfl)
    · have zz : ((er1 : Int) != 0) = true := by simp [z1]
      have HEx := Lib.hid (And.intro (show fhE s p = er1 by rw [HE1.out, if_pos (by rw [← H1.out]; exact z1), ← H1.out]) z1)
      clear HE1 z1
      clear y0 y1 y2 y3 yf0 yf1 yf2 yf3
      obtain ⟨y0, y1, y2, y3⟩ := st5r.cells
      have yf0 := frozen_blk st5r.co 0
      have yf1 := frozen_blk st5r.co 1
      have yf2 := frozen_blk st5r.co 2
      have yf3 := frozen_blk st5r.co 3
      go_wp2_with fail
      exact bodyPost_ret (v := .tuple #[.agg #[.int .u32 v1, .int .u64 (0 : Nat), .int .u64 (0 : Nat), .int .i64 (0 : Nat)], .int .i64 er1]) (by simp [results, Try.results109, go_sem, y0, y1, y2, y3]) rfl (hd_out st5 q1le HEx.out.1 rfl (fun x => absurd x HEx.out.2) _ rfl)
end Go.Proofs.Ytbfipgeoecbpaaa
