/- A bundle of: CoilA CoilP CoilS CoilB Same CoilR CoilQ CoilV. -/
import Derived.Test.YtbfipgeoecbpaaaBL
import Derived.Test.YtbfipgeoecbpaaaBE
import Derived.Test.YtbfipgeoecbpaaaBP
import Derived.Test.YtbfipgeoecbpaaaSl
import Derived.IntWalk
import Derived.Deep.DeepCutAuto
import Derived.Deep.RegionHeld3
/- Contracts of package coil: steps, put, Size. No condition but those that each names. -/
namespace Go.Proofs.Ytbfipgeoecbpaaa
open Go.RowKit
set_option maxRecDepth 20000
set_option maxHeartbeats 4000000 in
theorem steps_any (b e : Ev) (hb : b.Wf) (he : e.Wf) (w : World) : Calls Try.prog 79 #[b.val, e.val] w fun x w' => x = .returned (.tuple #[.int .u64 (Stp b e).1, .int .i64 (Stp b e).2.1, .bool (Stp b e).2.2]) ∧ Below w.heap.size w w' := by
  obtain ⟨k, cy, ct, a, bb, v⟩ := e
  obtain ⟨k', cy', ct', a', b', v'⟩ := b
  have h1 := he.cy
  have h2 := he.ct
  have h3 := hb.cy
  have h4 := hb.ct
  simp only at h1 h2 h3 h4
  clear he hb
  unfold Ev.val
  simp only
  have hB := fun o o' => ((Below.refl w.heap.size w).alloc (Nat.le_refl _) o).alloc (by simp) o'
  by_cases q1 : ct < ct'
  · have hr : Stp ⟨k', cy', ct', a', b', v'⟩ ⟨k, cy, ct, a, bb, v⟩ = (0, 0, false) := by unfold Stp; rw [if_pos (.inl q1)]
    rw [hr]
    clear hr
    go_enter Try.func79, Try.ntmps79
    go_wp2
    go_ret3
    exact ⟨rfl, hB _ _⟩
  · by_cases q2 : cy < cy'
    · have hr : Stp ⟨k', cy', ct', a', b', v'⟩ ⟨k, cy, ct, a, bb, v⟩ = (0, 0, false) := by unfold Stp; rw [if_pos (.inr q2)]
      rw [hr]
      clear hr
      have q1' : ct' ≤ ct := by omega
      clear q1
      go_enter Try.func79, Try.ntmps79
      go_wp2
      go_ret3
      exact ⟨rfl, hB _ _⟩
    · obtain ⟨s, rfl⟩ : ∃ s, ct = ct' + s := ⟨ct - ct', by omega⟩
      obtain ⟨g, rfl⟩ : ∃ g, cy = cy' + g := ⟨cy - cy', by omega⟩
      clear q1 q2
      have z1 : (ct' : Int) + s - ct' = s := by omega
      have z2 : (cy' : Int) + g - cy' = g := by omega
      have hE : Stp ⟨k', cy', ct', a', b', v'⟩ ⟨k, cy' + g, ct' + s, a, bb, v⟩ = if 4294967295 < s ∨ (s < g ∧ 2147483648 ≤ g - s) ∨ (g < s ∧ 2147483648 < s - g) then (0, 0, false) else (s, (g : Int) - s, true) := by
        unfold Stp
        rw [if_neg (by simp only; omega)]
        simp only [Nat.add_sub_cancel_left]
      rw [hE]
      clear hE
      by_cases r1 : 4294967295 < s
      · rw [if_pos (.inl r1)]
        have r1' : (4294967295 : Int) < s := by omega
        clear r1
        go_enter Try.func79, Try.ntmps79
        go_wp2
        go_ret3
        exact ⟨rfl, hB _ _⟩
      · have r1' : (s : Int) ≤ 4294967295 := by omega
        by_cases g1 : s < g
        · have g1' : (s : Int) < g := by omega
          by_cases r2 : 2147483648 ≤ g - s
          · rw [if_pos (.inr (.inl ⟨g1, r2⟩))]
            have r2' : (2147483648 : Int) ≤ g - s := by omega
            clear r1 g1 r2
            go_enter Try.func79, Try.ntmps79
            go_wp2
            go_ret3
            exact ⟨rfl, hB _ _⟩
          · rw [if_neg (by omega)]
            have r2' : (g : Int) - s < 2147483648 := by omega
            have g2' : ¬ (g : Int) < s := by omega
            clear r1 g1 r2
            go_enter Try.func79, Try.ntmps79
            go_wp2
            go_ret3
            exact ⟨rfl, hB _ _⟩
        · have g1' : (g : Int) ≤ s := by omega
          by_cases g2 : g < s
          · have g2' : (g : Int) < s := by omega
            by_cases r2 : 2147483648 < s - g
            · rw [if_pos (.inr (.inr ⟨g2, r2⟩))]
              have r2' : (2147483648 : Int) < s - g := by omega
              clear r1 g1 r2 g2
              go_enter Try.func79, Try.ntmps79
              go_wp2
              go_ret3
              exact ⟨rfl, hB _ _⟩
            · rw [if_neg (by omega)]
              have r2' : (s : Int) - g ≤ 2147483648 := by omega
              clear r1 g1 r2 g2
              go_enter Try.func79, Try.ntmps79
              go_wp2
              go_ret3
              exact ⟨rfl, hB _ _⟩
          · obtain rfl : g = s := by omega
            rw [if_neg (by omega), show (g : Int) - g = 0 from by omega]
            clear r1 g1 g2
            go_enter Try.func79, Try.ntmps79
            go_wp2
            go_ret3
            exact ⟨rfl, hB _ _⟩
end Go.Proofs.Ytbfipgeoecbpaaa
/- Contracts of package coil: put, Size. No condition but those that each names. -/
namespace Go.Proofs.Ytbfipgeoecbpaaa
open Go.RowKit
set_option maxRecDepth 20000
theorem IsWr.lt {w : World} {b : Nat} {R : Nat → Prop} {l : List UInt8} (h : IsWr w b R l) : IsWr w b (fun k => R k ∧ k < w.heap.size) l := by
  obtain ⟨v, h1, h2, h3⟩ := h
  exact ⟨v, h1, h2, fun k hk => ⟨⟨(h3 k hk).1, (h3 k hk).2.2⟩, (h3 k hk).2⟩⟩
theorem IsWr.blt {w : World} {b : Nat} {R : Nat → Prop} {l : List UInt8} (h : IsWr w b R l) : b < w.heap.size := by
  obtain ⟨v, h1, _⟩ := h
  exact blk_lt h1
/-- A writer's bytes while an event lies boxed in block g of its own. -/
structure PSt (W : World) (b g : Nat) (R : Nat → Prop) (e : Ev) (l : List UInt8) (w1 : World) : Prop where
  p : WrPost W b R l w1
  blk : w1.heap[g]? = some (.cells e.cells.toArray 25 (0, 0))
  gW : g < W.heap.size
  hR : ∀ k, R k → k < g
  hb : b < g
theorem PSt.put {W : World} {b g : Nat} {R : Nat → Prop} {e : Ev} {l l2 : List UInt8} {w1 w2 : World} (h : PSt W b g R e l w1)
    (k : WrPost w1 b (fun i => R i ∨ W.heap.size ≤ i) l2 w2) : PSt W b g R e l2 w2 :=
  ⟨h.p.trans k, k.2.keeps h.blk (fun hs => by
    rcases hs with hs | hs | hs
    · have := h.hb; omega
    · exact absurd (h.hR _ hs) (by omega)
    · have := h.gW; omega), h.gW, h.hR, h.hb⟩
theorem PSt.below {W : World} {b g : Nat} {R : Nat → Prop} {e : Ev} {l : List UInt8} {w1 w2 : World} (h : PSt W b g R e l w1) (k : Below w1.heap.size w1 w2) : PSt W b g R e l w2 :=
  ⟨⟨h.p.1.kept k, h.p.2.trans (Only.of_below k (fun _ => False)) (fun _ _ x => x.elim)⟩, (k.block _ (blk_lt h.blk)).trans h.blk, h.gW, h.hR, h.hb⟩
theorem wr_out {w : World} {o : Obj} {b : Nat} {R R' : Nat → Prop} {l : List UInt8} {w1 : World} (h : WrPost (w.alloc o) b R l w1) (hR : ∀ k, R k → R' k) : WrPost w b R' l w1 :=
  ⟨h.1.mono fun k hk => hk.elim (fun x => .inl (hR k x)) (fun x => .inr (by simp at x; omega)), ((Only.refl (fun i => i = b ∨ R' i) w).alloc _).trans h.2 fun i _ hs => hs.elim .inl (fun x => .inr (hR i x))⟩
theorem wr_eq {w w1 : World} {b : Nat} {R : Nat → Prop} {l l' : List UInt8} (h : WrPost w b R l w1) (e : l = l') : WrPost w b R l' w1 := e ▸ h
theorem k_byte {k : Int} (h : isK k = true) : k % 256 = ((UInt8.ofNat k.toNat).toNat : Int) := by
  have : 1 ≤ k ∧ k ≤ 24 := by simpa [isK] using h
  simp
  omega
set_option maxHeartbeats 4000000 in
theorem cput_any {w : World} {b : Nat} {R : Nat → Prop} {l : List UInt8} (h : IsWr w b R l) (e : Ev) (hk : isK e.k = true) (he : e.Wf) (s : Nat) (hs : s < U64) (d : Int) (d0 : -9223372036854775808 ≤ d) (d1 : d ≤ 9223372036854775807) (hlen : l.length + 60 ≤ 140737488355328) :
    Calls Try.prog 80 #[.pointer (some ⟨b, 0, none⟩), e.val, .int .u64 s, .int .i64 d] w fun x w' => x = .returned (.tuple #[]) ∧ WrPost w b R (l ++ one e s d) w' := by
  have hlt := h.lt
  have hbl := h.blt
  obtain ⟨k, cy, ct, a, bb, v⟩ := e
  have hW : IsWr (w.alloc (.cells #[.int .i64 k, .int .u64 cy, .int .u64 ct, .int .u32 a, .int .u32 bb, .int .u32 v] 25)) b (fun k => R k ∧ k < w.heap.size) l := hlt.alloc _
  have hblk : (w.alloc (.cells #[.int .i64 k, .int .u64 cy, .int .u64 ct, .int .u32 a, .int .u32 bb, .int .u32 v] 25)).heap[w.heap.size]? = some (.cells (Ev.cells ⟨k, cy, ct, a, bb, v⟩).toArray 25 (0, 0)) := heap_alloc_new w _
  have hout : ∀ (L : List UInt8) (w1 : World), WrPost (w.alloc (.cells #[.int .i64 k, .int .u64 cy, .int .u64 ct, .int .u32 a, .int .u32 bb, .int .u32 v] 25)) b (fun k => R k ∧ k < w.heap.size) L w1 → WrPost w b R L w1 := fun L w1 hx => wr_out hx fun i hi => hi.1
  have hkb := k_byte hk
  simp only at hkb
  have a64 : a < U64 := by have := he.a; simp only at this; unfold U64; omega
  have b64 : bb < U64 := by have := he.b; simp only at this; unfold U64; omega
  have v64 : v < U64 := by have := he.v; simp only at this; unfold U64; omega
  have a32 := he.a
  have b32 := he.b
  have v32 := he.v
  simp only at a32 b32 v32
  have A64 := Lib.hid a64
  have B64 := Lib.hid b64
  have V64 := Lib.hid v64
  have HS := Lib.hid hs
  have D0 := Lib.hid (And.intro d0 d1)
  have HKB := Lib.hid hkb
  have hf := fun x => fields_any k x
  have l1 := leb_len_le 10 s
  have l2 := leb_len_le 10 (foldV d)
  have l3 := leb_len_le 10 a
  have l4 := leb_len_le 10 bb
  unfold one
  simp only
  generalize hasA k = xa at hf ⊢
  generalize hasB k = xb at hf ⊢
  generalize hasV k = xv at hf ⊢
  unfold Ev.val
  simp only
  clear he hk hs d0 d1 hkb a64 b64 v64 h hlt
  go_enter Try.func80, Try.ntmps80
  go_wp2_with fail
  have hsz : (w.alloc (.cells #[.int .i64 k, .int .u64 cy, .int .u64 ct, .int .u32 a, .int .u32 bb, .int .u32 v] 25)).heap.size = w.heap.size + 1 := by simp
  rw [← hsz]
  generalize w.alloc (.cells #[.int .i64 k, .int .u64 cy, .int .u64 ct, .int .u32 a, .int .u32 bb, .int .u32 v] 25) = W at hW hsz hblk hout ⊢
  have hstart : PSt W b w.heap.size (fun k => R k ∧ k < w.heap.size) ⟨k, cy, ct, a, bb, v⟩ l W := ⟨WrPost.start hW, hblk, by omega, fun i hi => hi.2, hbl⟩
  have HO := Lib.hid hout
  clear hsz hblk hout
  generalize w.heap.size = g at hW hstart hbl HO ⊢
  refine (put_one hW _ (UInt8.ofNat k.toNat) ?hx (by omega)).mono ?_
  case hx => first | exact HKB.out | (have := HKB.out; omega)
  rintro e w1 ⟨rfl, hw⟩
  have st1 : PSt W b g (fun k => R k ∧ k < g) ⟨k, cy, ct, a, bb, v⟩ (l ++ [UInt8.ofNat k.toNat]) w1 := hstart.put ⟨hw.1.mono fun i hi => hi.elim (fun x => .inl (.inl x)) (fun x => .inl (.inr x)), hw.2.mono fun i _ hs => hs.elim .inl (fun x => .inr (.inl x))⟩
  clear hw hstart hW
  obtain ⟨c0, c1, c2, c3, c4, c5⟩ := ev_cells st1.blk
  simp only at c0 c1 c2 c3 c4 c5
  go_wp2_with fail
  refine (lput_any st1.p.1 s HS.out (by simp; omega)).mono ?_
  rintro e w2 ⟨rfl, hw⟩
  have st2 := st1.put hw
  clear hw st1 c0 c1 c2 c3 c4 c5
  go_wp2_with fail
  refine (lputInt_any st2.p.1 d D0.out.1 D0.out.2 (by simp; omega)).mono ?_
  rintro e w3 ⟨rfl, hw⟩
  have st3 := st2.put hw
  clear hw st2
  obtain ⟨c0, c1, c2, c3, c4, c5⟩ := ev_cells st3.blk
  simp only at c0 c1 c2 c3 c4 c5
  go_wp2_with fail
  refine (hf _).mono ?_
  rintro e w4 ⟨rfl, hw⟩
  have st4 := st3.below hw
  clear hw st3 c0 c1 c2 c3 c4 c5 hf
  generalize hL4 : l ++ [UInt8.ofNat k.toNat] ++ leb 10 s ++ leb 10 (foldV d) = L4 at st4
  have hl4 : L4.length ≤ l.length + 21 := by rw [← hL4]; simp; omega
  have HL4 := Lib.hid hL4
  clear hL4
  obtain ⟨c0, c1, c2, c3, c4, c5⟩ := ev_cells st4.blk
  simp only at c0 c1 c2 c3 c4 c5
  cases xa <;> cases xb <;> cases xv
  · go_wp2_with fail
    go_end0
    refine ⟨rfl, ?_⟩
    refine wr_eq (HO.out _ _ st4.p) ?_
    rw [← HL4.out]
    simp
  · go_wp2_with fail
    refine (lput_any st4.p.1 v V64.out (by first | omega | (simp; omega))).mono ?_
    rintro e w5 ⟨rfl, hw⟩
    have st5 := st4.put hw
    clear hw st4 c0 c1 c2 c3 c4 c5
    obtain ⟨c0, c1, c2, c3, c4, c5⟩ := ev_cells st5.blk
    simp only at c0 c1 c2 c3 c4 c5
    go_wp2_with fail
    go_end0
    refine ⟨rfl, ?_⟩
    refine wr_eq (HO.out _ _ st5.p) ?_
    rw [← HL4.out]
    simp
  · go_wp2_with fail
    refine (lput_any st4.p.1 bb B64.out (by first | omega | (simp; omega))).mono ?_
    rintro e w5 ⟨rfl, hw⟩
    have st5 := st4.put hw
    clear hw st4 c0 c1 c2 c3 c4 c5
    obtain ⟨c0, c1, c2, c3, c4, c5⟩ := ev_cells st5.blk
    simp only at c0 c1 c2 c3 c4 c5
    go_wp2_with fail
    go_end0
    refine ⟨rfl, ?_⟩
    refine wr_eq (HO.out _ _ st5.p) ?_
    rw [← HL4.out]
    simp
  · go_wp2_with fail
    refine (lput_any st4.p.1 bb B64.out (by first | omega | (simp; omega))).mono ?_
    rintro e w5 ⟨rfl, hw⟩
    have st5 := st4.put hw
    clear hw st4 c0 c1 c2 c3 c4 c5
    obtain ⟨c0, c1, c2, c3, c4, c5⟩ := ev_cells st5.blk
    simp only at c0 c1 c2 c3 c4 c5
    go_wp2_with fail
    refine (lput_any st5.p.1 v V64.out (by first | omega | (simp; omega))).mono ?_
    rintro e w6 ⟨rfl, hw⟩
    have st6 := st5.put hw
    clear hw st5 c0 c1 c2 c3 c4 c5
    obtain ⟨c0, c1, c2, c3, c4, c5⟩ := ev_cells st6.blk
    simp only at c0 c1 c2 c3 c4 c5
    go_wp2_with fail
    go_end0
    refine ⟨rfl, ?_⟩
    refine wr_eq (HO.out _ _ st6.p) ?_
    rw [← HL4.out]
    simp
  · go_wp2_with fail
    refine (lput_any st4.p.1 a A64.out (by first | omega | (simp; omega))).mono ?_
    rintro e w5 ⟨rfl, hw⟩
    have st5 := st4.put hw
    clear hw st4 c0 c1 c2 c3 c4 c5
    obtain ⟨c0, c1, c2, c3, c4, c5⟩ := ev_cells st5.blk
    simp only at c0 c1 c2 c3 c4 c5
    go_wp2_with fail
    go_end0
    refine ⟨rfl, ?_⟩
    refine wr_eq (HO.out _ _ st5.p) ?_
    rw [← HL4.out]
    simp
  · go_wp2_with fail
    refine (lput_any st4.p.1 a A64.out (by first | omega | (simp; omega))).mono ?_
    rintro e w5 ⟨rfl, hw⟩
    have st5 := st4.put hw
    clear hw st4 c0 c1 c2 c3 c4 c5
    obtain ⟨c0, c1, c2, c3, c4, c5⟩ := ev_cells st5.blk
    simp only at c0 c1 c2 c3 c4 c5
    go_wp2_with fail
    refine (lput_any st5.p.1 v V64.out (by first | omega | (simp; omega))).mono ?_
    rintro e w6 ⟨rfl, hw⟩
    have st6 := st5.put hw
    clear hw st5 c0 c1 c2 c3 c4 c5
    obtain ⟨c0, c1, c2, c3, c4, c5⟩ := ev_cells st6.blk
    simp only at c0 c1 c2 c3 c4 c5
    go_wp2_with fail
    go_end0
    refine ⟨rfl, ?_⟩
    refine wr_eq (HO.out _ _ st6.p) ?_
    rw [← HL4.out]
    simp
  · go_wp2_with fail
    refine (lput_any st4.p.1 a A64.out (by first | omega | (simp; omega))).mono ?_
    rintro e w5 ⟨rfl, hw⟩
    have st5 := st4.put hw
    clear hw st4 c0 c1 c2 c3 c4 c5
    obtain ⟨c0, c1, c2, c3, c4, c5⟩ := ev_cells st5.blk
    simp only at c0 c1 c2 c3 c4 c5
    go_wp2_with fail
    refine (lput_any st5.p.1 bb B64.out (by first | omega | (simp; omega))).mono ?_
    rintro e w6 ⟨rfl, hw⟩
    have st6 := st5.put hw
    clear hw st5 c0 c1 c2 c3 c4 c5
    obtain ⟨c0, c1, c2, c3, c4, c5⟩ := ev_cells st6.blk
    simp only at c0 c1 c2 c3 c4 c5
    go_wp2_with fail
    go_end0
    refine ⟨rfl, ?_⟩
    refine wr_eq (HO.out _ _ st6.p) ?_
    rw [← HL4.out]
    simp
  · go_wp2_with fail
    refine (lput_any st4.p.1 a A64.out (by first | omega | (simp; omega))).mono ?_
    rintro e w5 ⟨rfl, hw⟩
    have st5 := st4.put hw
    clear hw st4 c0 c1 c2 c3 c4 c5
    obtain ⟨c0, c1, c2, c3, c4, c5⟩ := ev_cells st5.blk
    simp only at c0 c1 c2 c3 c4 c5
    go_wp2_with fail
    refine (lput_any st5.p.1 bb B64.out (by first | omega | (simp; omega))).mono ?_
    rintro e w6 ⟨rfl, hw⟩
    have st6 := st5.put hw
    clear hw st5 c0 c1 c2 c3 c4 c5
    obtain ⟨c0, c1, c2, c3, c4, c5⟩ := ev_cells st6.blk
    simp only at c0 c1 c2 c3 c4 c5
    go_wp2_with fail
    refine (lput_any st6.p.1 v V64.out (by first | omega | (simp; omega))).mono ?_
    rintro e w7 ⟨rfl, hw⟩
    have st7 := st6.put hw
    clear hw st6 c0 c1 c2 c3 c4 c5
    obtain ⟨c0, c1, c2, c3, c4, c5⟩ := ev_cells st7.blk
    simp only at c0 c1 c2 c3 c4 c5
    go_wp2_with fail
    go_end0
    refine ⟨rfl, ?_⟩
    refine wr_eq (HO.out _ _ st7.p) ?_
    rw [← HL4.out]
    simp
end Go.Proofs.Ytbfipgeoecbpaaa
/- Contracts of coil.Size and coil.Print. No condition but those that each names. -/
namespace Go.Proofs.Ytbfipgeoecbpaaa
open Go.RowKit
set_option maxRecDepth 20000
theorem one_len' (e : Ev) (s : Nat) (d : Int) : (one e s d).length ≤ 51 := (one_len e s d).2
/-- What Size answers. -/
def szV (b e : Ev) : Nat := if (Stp b e).2.2 = true ∧ e.chk = 0 then (evBytes b e).length else 0
theorem cput_ev (b e : Ev) (_hb : b.Wf) (he : e.Wf) (k : isK e.k = true) (q : (Stp b e).2.2 = true) (w : World) (bb : Nat) (R : Nat → Prop) (l : List UInt8) (h : IsWr w bb R l) (hlen : l.length + 60 ≤ 140737488355328) :
    Calls Try.prog 80 #[.pointer (some ⟨bb, 0, none⟩), e.val, .int .u64 (Stp b e).1, .int .i64 (Stp b e).2.1] w fun x w' => x = .returned (.tuple #[]) ∧ WrPost w bb R (l ++ evBytes b e) w' := by
  have := stp_yes q
  have h5 := he.ct
  exact cput_any h e k he _ (by unfold U64; omega) _ (by omega) (by omega) hlen
set_option maxHeartbeats 4000000 in
theorem csize_any (b e : Ev) (hb : b.Wf) (he : e.Wf) (w : World) : Calls Try.prog 57 #[b.val, e.val] w fun x w' => x = .returned (.int .i64 (szV b e)) ∧ Below w.heap.size w w' := by
  have hst := fun x => steps_any b e hb he x
  have hck := fun x => check_any e x
  have hchk := fun h : e.chk = 0 => (chk_ok h).1
  have hu := fun k q w' bb h => cput_ev b e hb he k q w' bb (fun _ => False) [] h (by simp)
  unfold szV
  generalize evBytes b e = L at hu ⊢
  generalize Stp b e = r at hst hu ⊢
  obtain ⟨s, d, ok⟩ := r
  simp only [List.nil_append] at hst hu ⊢
  generalize e.chk = cc at hck hchk ⊢
  clear hb he
  obtain ⟨k', cy', ct', a', b', v'⟩ := b
  obtain ⟨k, cy, ct, a, bb, v⟩ := e
  unfold Ev.val at *
  simp only at hst hck hchk hu ⊢
  have hB0 := fun o o' => ((Below.refl w.heap.size w).alloc (Nat.le_refl _) o).alloc (by simp) o'
  cases ok
  · rw [if_neg (by simp)]
    clear hu hck hchk
    go_enter Try.func57, Try.ntmps57
    go_wp2_with fail
    refine (hst _).mono ?_
    rintro x w1 ⟨rfl, hk⟩
    have hbel := (hB0 _ _).trans (hk.mono (by simp; omega))
    clear hk hB0 hst
    go_wp2_with fail
    go_ret
    exact ⟨rfl, hbel⟩
  · have hu1 := fun k => hu k rfl
    clear hu
    by_cases hc : cc = 0
    · subst hc
      rw [if_pos ⟨rfl, rfl⟩]
      have HU := Lib.hid (hu1 (hchk rfl))
      clear hchk hu1
      go_enter Try.func57, Try.ntmps57
      go_wp2_with fail
      refine (hst _).mono ?_
      rintro x w1 ⟨rfl, hk⟩
      have hblk : w1.heap[w.heap.size + 1]? = some (.cells (Ev.cells ⟨k, cy, ct, a, bb, v⟩).toArray 25 (0, 0)) := (hk.block (w.heap.size + 1) (by simp)).trans (by simpa [Ev.cells] using heap_alloc_new (w.alloc (.cells #[.int .i64 k', .int .u64 cy', .int .u64 ct', .int .u32 a', .int .u32 b', .int .u32 v'] 25)) (.cells #[.int .i64 k, .int .u64 cy, .int .u64 ct, .int .u32 a, .int .u32 bb, .int .u32 v] 25))
      have hbel := (hB0 _ _).trans (hk.mono (by simp; omega))
      obtain ⟨c0, c1, c2, c3, c4, c5⟩ := ev_cells hblk
      simp only at c0 c1 c2 c3 c4 c5
      clear hk hB0 hst
      go_wp2_with fail
      refine (hck _).mono ?_
      rintro x w2 ⟨rfl, hk⟩
      have hz1 := hbel.size
      have hbel2 := hbel.trans (hk.mono hz1)
      have hblk2 := (hk.block _ (blk_lt hblk)).trans hblk
      have hlt2 := blk_lt hblk2
      clear hk hblk hbel c0 c1 c2 c3 c4 c5 hck hz1
      obtain ⟨c0, c1, c2, c3, c4, c5⟩ := ev_cells hblk2
      simp only at c0 c1 c2 c3 c4 c5
      have hW := IsWr.new w2 (fun _ => False)
      have hbel3 := hbel2.alloc hbel2.size (.cells #[.slice none 0 0] 128)
      go_wp2_with fail
      have hu2 := HU.out _ _ hW
      refine hu2.mono ?_
      rintro x w3 ⟨rfl, hw⟩
      have hbel4 := bel_wr hbel3 hw hbel2.size (fun _ x => x.elim) (by have := hbel2.size; simp; omega)
      go_wp2_with fail
      refine (len_any hw.1).mono ?_
      rintro x w4 ⟨rfl, n, rfl⟩
      go_wp2_with fail
      go_ret
      exact ⟨rfl, below_drewN hbel4 n⟩
    · rw [if_neg (by simp [hc])]
      have hd : (cc == 0) = false := eqb_f hc
      have hd' : (cc != 0) = true := by simp [hc]
      clear hu1 hchk hc
      go_enter Try.func57, Try.ntmps57
      go_wp2_with fail
      refine (hst _).mono ?_
      rintro x w1 ⟨rfl, hk⟩
      have hblk : w1.heap[w.heap.size + 1]? = some (.cells (Ev.cells ⟨k, cy, ct, a, bb, v⟩).toArray 25 (0, 0)) := (hk.block (w.heap.size + 1) (by simp)).trans (by simpa [Ev.cells] using heap_alloc_new (w.alloc (.cells #[.int .i64 k', .int .u64 cy', .int .u64 ct', .int .u32 a', .int .u32 b', .int .u32 v'] 25)) (.cells #[.int .i64 k, .int .u64 cy, .int .u64 ct, .int .u32 a, .int .u32 bb, .int .u32 v] 25))
      have hbel := (hB0 _ _).trans (hk.mono (by simp; omega))
      obtain ⟨c0, c1, c2, c3, c4, c5⟩ := ev_cells hblk
      simp only at c0 c1 c2 c3 c4 c5
      clear hk hB0 hst
      go_wp2_with fail
      refine (hck _).mono ?_
      rintro x w2 ⟨rfl, hk⟩
      have hbel2 := hbel.trans (hk.mono hbel.size)
      clear hk hblk hbel c0 c1 c2 c3 c4 c5 hck
      go_wp2_with fail
      go_ret
      exact ⟨rfl, hbel2⟩
end Go.Proofs.Ytbfipgeoecbpaaa
/- Contract of coil.Print. No condition but those that it names. -/
namespace Go.Proofs.Ytbfipgeoecbpaaa
open Go.RowKit
set_option maxRecDepth 20000
theorem six {W w' : World} {oa : Option Addr} {len cap B : Nat} {z : Nat → Ev} (h : SlArgN W oa len cap 6 (fun i j => (z i).f j)) (k : Below B W w') (hB : W.heap.size ≤ B) {i : Nat} (hi : i < len) :
    ∃ b off, oa = some ⟨b, off, none⟩ ∧ b < W.heap.size ∧ w'.cell? ⟨b, off + i * 6, none⟩ = some (.int .i64 (z i).k) ∧ w'.cell? ⟨b, off + i * 6 + 1, none⟩ = some (.int .u64 (z i).cy) ∧ w'.cell? ⟨b, off + i * 6 + 2, none⟩ = some (.int .u64 (z i).ct) ∧ w'.cell? ⟨b, off + i * 6 + 3, none⟩ = some (.int .u32 (z i).a) ∧ w'.cell? ⟨b, off + i * 6 + 4, none⟩ = some (.int .u32 (z i).b) ∧ w'.cell? ⟨b, off + i * 6 + 5, none⟩ = some (.int .u32 (z i).v) := by
  obtain ⟨b, off, h1, h2, h3⟩ := h.below k hB hi
  exact ⟨b, off, h1, h2, h3 0 (by decide), h3 1 (by decide), h3 2 (by decide), h3 3 (by decide), h3 4 (by decide), h3 5 (by decide)⟩
theorem bel_undrew {B : Nat} {w w9 : World} (k : Below B w.drew w9) : Below B w w9 := ⟨k.os, k.tape, k.output, k.size, k.block⟩
theorem twelve {W w9 : World} {g o off : Nat} {x0 x1 x2 x3 x4 x5 x6 x7 x8 x9 x10 x11 : Value} (hk : Below W.drew.heap.size W.drew w9) (hg : g < W.heap.size) (ho : o < W.heap.size) (h : W.cell? ⟨g, off, none⟩ = some x0 ∧ W.cell? ⟨g, off + 1, none⟩ = some x1 ∧ W.cell? ⟨g, off + 2, none⟩ = some x2 ∧ W.cell? ⟨g, off + 3, none⟩ = some x3 ∧ W.cell? ⟨g, off + 4, none⟩ = some x4 ∧ W.cell? ⟨g, off + 5, none⟩ = some x5 ∧ W.cell? ⟨o, 0, none⟩ = some x6 ∧ W.cell? ⟨o, 1, none⟩ = some x7 ∧ W.cell? ⟨o, 2, none⟩ = some x8 ∧ W.cell? ⟨o, 3, none⟩ = some x9 ∧ W.cell? ⟨o, 4, none⟩ = some x10 ∧ W.cell? ⟨o, 5, none⟩ = some x11) : w9.cell? ⟨g, off, none⟩ = some x0 ∧ w9.cell? ⟨g, off + 1, none⟩ = some x1 ∧ w9.cell? ⟨g, off + 2, none⟩ = some x2 ∧ w9.cell? ⟨g, off + 3, none⟩ = some x3 ∧ w9.cell? ⟨g, off + 4, none⟩ = some x4 ∧ w9.cell? ⟨g, off + 5, none⟩ = some x5 ∧ w9.cell? ⟨o, 0, none⟩ = some x6 ∧ w9.cell? ⟨o, 1, none⟩ = some x7 ∧ w9.cell? ⟨o, 2, none⟩ = some x8 ∧ w9.cell? ⟨o, 3, none⟩ = some x9 ∧ w9.cell? ⟨o, 4, none⟩ = some x10 ∧ w9.cell? ⟨o, 5, none⟩ = some x11 := by
  obtain ⟨h0, h1, h2, h3, h4, h5, h6, h7, h8, h9, h10, h11⟩ := h
  exact ⟨(hk.cell (p := ⟨g, off, none⟩) hg).trans h0, (hk.cell (p := ⟨g, off + 1, none⟩) hg).trans h1, (hk.cell (p := ⟨g, off + 2, none⟩) hg).trans h2, (hk.cell (p := ⟨g, off + 3, none⟩) hg).trans h3, (hk.cell (p := ⟨g, off + 4, none⟩) hg).trans h4, (hk.cell (p := ⟨g, off + 5, none⟩) hg).trans h5, (hk.cell (p := ⟨o, 0, none⟩) ho).trans h6, (hk.cell (p := ⟨o, 1, none⟩) ho).trans h7, (hk.cell (p := ⟨o, 2, none⟩) ho).trans h8, (hk.cell (p := ⟨o, 3, none⟩) ho).trans h9, (hk.cell (p := ⟨o, 4, none⟩) ho).trans h10, (hk.cell (p := ⟨o, 5, none⟩) ho).trans h11⟩
set_option maxHeartbeats 4000000 in
theorem cprint_any (w : World) (oa : Option Addr) (len cap : Nat) (z : Nat → Ev) (hsl : SlArgN w oa len cap 6 (fun i j => (z i).f j)) (hz : ∀ i, i < len → (z i).Wf) (hlen : len ≤ 100000) :
    Calls Try.prog 69 #[.slice oa len cap] w fun x w' => x = .returned (.tuple #[.string ⟨(prnS z len).toArray⟩, .int .i64 (prnE z len)]) ∧ Below w.heap.size w w' := by
  have HZ := Lib.hid hz
  clear hz
  go_enter Try.func69, Try.ntmps69
  go_wp2_with fail
  have hW0 := IsWr.new w (fun k => w.heap.size ≤ k)
  have hB0 := (Below.refl w.heap.size w).alloc (Nat.le_refl _) (.cells #[.slice none 0 0] 128)
  obtain ⟨bw, hbw⟩ : ∃ bw, bw = w.heap.size := ⟨_, rfl⟩
  have hbw' : w.heap.size ≤ bw := by omega
  rw [← hbw] at hW0 ⊢
  generalize w.alloc (.cells #[.slice none 0 0] 128) = w1 at hW0 hB0 ⊢
  rw [hbw] at hW0
  rw [← hbw] at hW0
  go_loopw [12] (fun x wr => ∃ i : Nat, x = .int .i64 i ∧ i ≤ len ∧ prnE z i = 0 ∧ IsWr wr bw (fun k => w.heap.size ≤ k) (prnC z i) ∧ Below w.heap.size w wr) (fun x _ => len - (intOf x).toNat)
  case atStart => exact ⟨0, rfl, Nat.zero_le _, rfl, by rw [hbw] at hW0 ⊢; exact hW0, hB0⟩
  case round =>
    obtain ⟨i, rfl, hi, he, hW, hB⟩ := hrel
    clear hW0 hB0 hbw
    have HE := Lib.hid he
    clear he
    by_cases hlt : i < len
    · obtain ⟨g, off, rfl, hg, a0, a1, a2, a3, a4, a5⟩ := six hsl hB (Nat.le_refl _) hlt
      have hlt' : (i : Int) < len := by omega
      obtain ⟨e, hE⟩ : ∃ e, e = z i := ⟨_, rfl⟩
      rw [← hE] at a0 a1 a2 a3 a4 a5
      have hEw : e.Wf := hE ▸ HZ.out i hlt
      have HEE := Lib.hid hE
      clear hE
      have hck := fun x => check_any e x
      have HW := Lib.hid hEw
      clear hEw
      obtain ⟨k, cy, ct, a, b, v⟩ := e
      simp only [Ev.val] at a0 a1 a2 a3 a4 a5 hck
      have hx := hB.size
      have hO : (wr.alloc (.cells #[.int .i64 k, .int .u64 cy, .int .u64 ct, .int .u32 a, .int .u32 b, .int .u32 v] 25)).heap[wr.heap.size]? = some (.cells (Ev.cells ⟨k, cy, ct, a, b, v⟩).toArray 25 (0, 0)) := heap_alloc_new wr _
      have hB2 := hB.alloc hx (.cells #[.int .i64 k, .int .u64 cy, .int .u64 ct, .int .u32 a, .int .u32 b, .int .u32 v] 25)
      have hW2 : IsWr (wr.alloc (.cells #[.int .i64 k, .int .u64 cy, .int .u64 ct, .int .u32 a, .int .u32 b, .int .u32 v] 25)) bw (fun k => w.heap.size ≤ k) (prnC z i) := hW.alloc _
      have hob : wr.heap.size ≠ bw := by have := hW.blt; omega
      have hW3 : IsWr (wr.alloc (.cells #[.int .i64 k, .int .u64 cy, .int .u64 ct, .int .u32 a, .int .u32 b, .int .u32 v] 25)) bw (fun k => w.heap.size ≤ k ∧ k ≠ wr.heap.size) (prnC z i) := by
        obtain ⟨vv, q1, q2, q3⟩ := hW
        have q := (IsWr.alloc (R := fun k => w.heap.size ≤ k ∧ k < wr.heap.size) ⟨vv, q1, q2, fun k hk => ⟨⟨(q3 k hk).1, (q3 k hk).2.2⟩, (q3 k hk).2⟩⟩ (.cells #[.int .i64 k, .int .u64 cy, .int .u64 ct, .int .u32 a, .int .u32 b, .int .u32 v] 25))
        exact q.mono fun k hk => ⟨hk.1, by omega⟩
      clear hW hB hW2
      go_wp2_with fail
      generalize wr.alloc (.cells #[.int .i64 k, .int .u64 cy, .int .u64 ct, .int .u32 a, .int .u32 b, .int .u32 v] 25) = W at hO hB2 hW3 ⊢
      obtain ⟨o, ho⟩ : ∃ o, o = wr.heap.size := ⟨_, rfl⟩
      rw [← ho] at hO hW3 hob ⊢
      rw [← ho] at hx
      clear ho
      refine (hck _).mono ?_
      rintro x w2 ⟨rfl, hk⟩
      have hB3 := hB2.trans (hk.mono hB2.size)
      have hW4 := hW3.kept hk
      have hO4 := (hk.block _ (blk_lt hO)).trans hO
      clear hk hO hB2 hW3 a0 a1 a2 a3 a4 a5 hck
      by_cases hc : (Ev.mk k cy ct a b v).chk = 0
      · rw [hc]
        obtain ⟨g', off', hgo, hg', p0, p1, p2, p3, p4, p5⟩ := six (i := i - 1) hsl hB3 (Nat.le_refl _) (by omega)
        cases hgo
        obtain ⟨c0, c1, c2, c3, c4, c5⟩ := ev_cells hO4
        simp only at c0 c1 c2 c3 c4 c5
        obtain ⟨pe, hP⟩ : ∃ pe, pe = z (i - 1) := ⟨_, rfl⟩
        rw [← hP] at p0 p1 p2 p3 p4 p5
        have hst := fun x => steps_any pe ⟨k, cy, ct, a, b, v⟩ (hP ▸ HZ.out (i - 1) (by omega)) HW.out x
        have hcp := fun q w' h' => cput_ev pe ⟨k, cy, ct, a, b, v⟩ (hP ▸ HZ.out (i - 1) (by omega)) HW.out (chk_ok hc).1 q w' bw (fun k => w.heap.size ≤ k ∧ k ≠ o) (prnC z i) h' (by have := prnC_len z i; omega)
        have hev : evErr (z (i - 1)) (z i) = if (Stp pe ⟨k, cy, ct, a, b, v⟩).2.2 = true then 0 else 5 := by rw [← HEE.out, ← hP]; unfold evErr; rw [if_pos hc]
        have hby : evBytes pe ⟨k, cy, ct, a, b, v⟩ = evBytes (z (i - 1)) (z i) := by rw [← HEE.out, ← hP]
        rw [hby] at hcp
        have HEV := Lib.hid hev
        clear hev hby hP hc
        obtain ⟨k', cy', ct', a', b', v'⟩ := pe
        simp only [Ev.val] at p0 p1 p2 p3 p4 p5 hst hcp
        generalize Stp ⟨k', cy', ct', a', b', v'⟩ ⟨k, cy, ct, a, b, v⟩ = r at hst hcp HEV
        obtain ⟨s, d, ok⟩ := r
        simp only at hst hcp
        have HCP := Lib.hid hcp
        clear hcp
        have hgo : g ≠ o := by omega
        have hB3z := hB3.size
        have hoz := blk_lt hO4
        have hwi : IntKind.i64.wrap ((i : Int) - 1) = (i : Int) - 1 := IntWalk.i64_in _ (by omega)
        rcases Nat.eq_zero_or_pos i with hi0 | hi0
        · have e0 : off + (i - 1) * 6 = off := by omega
          rw [e0] at p0 p1 p2 p3 p4 p5
          have hl0 : (0 : Int) < len := by omega
          have hl1 : 0 < len := by omega
          have hneg : (i : Int) - 1 < 0 := by omega
          have hmx : max ((i : Int) - 1) 0 = 0 := by omega
          have HI := Lib.hid hi0
          clear hi0 e0
          have H := And.intro p0 (And.intro p1 (And.intro p2 (And.intro p3 (And.intro p4 (And.intro p5 (And.intro c0 (And.intro c1 (And.intro c2 (And.intro c3 (And.intro c4 c5))))))))))
          clear p0 p1 p2 p3 p4 p5 c0 c1 c2 c3 c4 c5
          go_wp2_with fail
          go_region_held3 (fun w' => w'.cell? ⟨g, off, none⟩ = some (.int .i64 k') ∧ w'.cell? ⟨g, off + 1, none⟩ = some (.int .u64 cy') ∧ w'.cell? ⟨g, off + 2, none⟩ = some (.int .u64 ct') ∧ w'.cell? ⟨g, off + 3, none⟩ = some (.int .u32 a') ∧ w'.cell? ⟨g, off + 4, none⟩ = some (.int .u32 b') ∧ w'.cell? ⟨g, off + 5, none⟩ = some (.int .u32 v') ∧ w'.cell? ⟨o, 0, none⟩ = some (.int .i64 k) ∧ w'.cell? ⟨o, 1, none⟩ = some (.int .u64 cy) ∧ w'.cell? ⟨o, 2, none⟩ = some (.int .u64 ct) ∧ w'.cell? ⟨o, 3, none⟩ = some (.int .u32 a) ∧ w'.cell? ⟨o, 4, none⟩ = some (.int .u32 b) ∧ w'.cell? ⟨o, 5, none⟩ = some (.int .u32 v)) (first | exact H | exact H2) (first | (go_at_call 79; (refine (hst _).mono ?_); rintro x w9 ⟨rfl, hk9⟩; have H2 : w9.cell? ⟨g, off, none⟩ = some (.int .i64 k') ∧ w9.cell? ⟨g, off + 1, none⟩ = some (.int .u64 cy') ∧ w9.cell? ⟨g, off + 2, none⟩ = some (.int .u64 ct') ∧ w9.cell? ⟨g, off + 3, none⟩ = some (.int .u32 a') ∧ w9.cell? ⟨g, off + 4, none⟩ = some (.int .u32 b') ∧ w9.cell? ⟨g, off + 5, none⟩ = some (.int .u32 v') ∧ w9.cell? ⟨o, 0, none⟩ = some (.int .i64 k) ∧ w9.cell? ⟨o, 1, none⟩ = some (.int .u64 cy) ∧ w9.cell? ⟨o, 2, none⟩ = some (.int .u64 ct) ∧ w9.cell? ⟨o, 3, none⟩ = some (.int .u32 a) ∧ w9.cell? ⟨o, 4, none⟩ = some (.int .u32 b) ∧ w9.cell? ⟨o, 5, none⟩ = some (.int .u32 v) := twelve hk9 (by omega) (by omega) H))
          have hB9 : Below w.heap.size w w9 := hB3.trans ((bel_undrew hk9).mono hB3z)
          have hW9 : IsWr w9 bw (fun k => w.heap.size ≤ k ∧ k ≠ o) (prnC z i) := hW4.kept (bel_undrew hk9)
          have hO9 : w9.heap[o]? = some (.cells (Ev.cells ⟨k, cy, ct, a, b, v⟩).toArray 25 (0, 0)) := ((bel_undrew hk9).block o hoz).trans hO4
          clear hk9 H2 H hW4 hB3 hO4 hst
          obtain ⟨c0, c1, c2, c3, c4, c5⟩ := ev_cells hO9
          simp only at c0 c1 c2 c3 c4 c5
          cases ok
          · have hR2 : prnE z (i + 1) = 5 := by rw [prnE, if_pos HE.out, HEV.out]; rfl
            have HR3 := Lib.hid (show prnE z len = 5 by rw [prnE_mono z (i := i + 1) (by rw [hR2]; decide) (by omega), hR2])
            clear hR2
            go_wp2_with fail
            go_ret2
            rw [HR3.out]
            refine ⟨?_, hB9⟩
            rw [show prnS z len = [] from by unfold prnS; rw [HR3.out]; rfl]
            rfl
          · have hR2 : prnE z (i + 1) = 0 := by rw [prnE, if_pos HE.out, HEV.out]; rfl
            have HR2 := Lib.hid hR2
            clear hR2
            go_wp2_with fail
            refine (HCP.out (by trivial) w9 hW9).mono ?_
            rintro x w10 ⟨rfl, hw⟩
            have hB10 := bel_wr hB9 hw hbw' (fun _ x => x.1) hB9.size
            have hW10 : IsWr w10 bw (fun k => w.heap.size ≤ k) (prnC z (i + 1)) := hw.1.mono fun k hk => hk.elim (fun x => x.1) (fun x => by have := hB9.size; omega)
            clear c0 c1 c2 c3 c4 c5 hw
            go_wp2_with fail
            go_roundw
            case rel => exact ⟨i + 1, by go_num, by omega, HR2.out, hW10, hB10⟩
            case measure => simp [intOf]; omega
        · have hl0 : (0 : Int) ≤ (i : Int) - 1 := by omega
          have hl1 : (i : Int) - 1 < len := by omega
          have hnn : ((i : Int) - 1).toNat = i - 1 := by omega
          have hnl : i - 1 < len := by omega
          have h1i : (1 : Int) ≤ i := by omega
          have h1n : ¬ ((i : Int) - 1 < 0) := by omega
          have hmx : max ((i : Int) - 1) 0 = (i : Int) - 1 := by omega
          have H := And.intro p0 (And.intro p1 (And.intro p2 (And.intro p3 (And.intro p4 (And.intro p5 (And.intro c0 (And.intro c1 (And.intro c2 (And.intro c3 (And.intro c4 c5))))))))))
          clear p0 p1 p2 p3 p4 p5 c0 c1 c2 c3 c4 c5
          go_wp2_with fail
          go_region_held3 (fun w' => w'.cell? ⟨g, off + (i - 1) * 6, none⟩ = some (.int .i64 k') ∧ w'.cell? ⟨g, off + (i - 1) * 6 + 1, none⟩ = some (.int .u64 cy') ∧ w'.cell? ⟨g, off + (i - 1) * 6 + 2, none⟩ = some (.int .u64 ct') ∧ w'.cell? ⟨g, off + (i - 1) * 6 + 3, none⟩ = some (.int .u32 a') ∧ w'.cell? ⟨g, off + (i - 1) * 6 + 4, none⟩ = some (.int .u32 b') ∧ w'.cell? ⟨g, off + (i - 1) * 6 + 5, none⟩ = some (.int .u32 v') ∧ w'.cell? ⟨o, 0, none⟩ = some (.int .i64 k) ∧ w'.cell? ⟨o, 1, none⟩ = some (.int .u64 cy) ∧ w'.cell? ⟨o, 2, none⟩ = some (.int .u64 ct) ∧ w'.cell? ⟨o, 3, none⟩ = some (.int .u32 a) ∧ w'.cell? ⟨o, 4, none⟩ = some (.int .u32 b) ∧ w'.cell? ⟨o, 5, none⟩ = some (.int .u32 v)) (first | exact H | exact H2) (first | (go_at_call 79; (refine (hst _).mono ?_); rintro x w9 ⟨rfl, hk9⟩; have H2 : w9.cell? ⟨g, off + (i - 1) * 6, none⟩ = some (.int .i64 k') ∧ w9.cell? ⟨g, off + (i - 1) * 6 + 1, none⟩ = some (.int .u64 cy') ∧ w9.cell? ⟨g, off + (i - 1) * 6 + 2, none⟩ = some (.int .u64 ct') ∧ w9.cell? ⟨g, off + (i - 1) * 6 + 3, none⟩ = some (.int .u32 a') ∧ w9.cell? ⟨g, off + (i - 1) * 6 + 4, none⟩ = some (.int .u32 b') ∧ w9.cell? ⟨g, off + (i - 1) * 6 + 5, none⟩ = some (.int .u32 v') ∧ w9.cell? ⟨o, 0, none⟩ = some (.int .i64 k) ∧ w9.cell? ⟨o, 1, none⟩ = some (.int .u64 cy) ∧ w9.cell? ⟨o, 2, none⟩ = some (.int .u64 ct) ∧ w9.cell? ⟨o, 3, none⟩ = some (.int .u32 a) ∧ w9.cell? ⟨o, 4, none⟩ = some (.int .u32 b) ∧ w9.cell? ⟨o, 5, none⟩ = some (.int .u32 v) := twelve hk9 (by omega) (by omega) H))
          have hB9 : Below w.heap.size w w9 := hB3.trans ((bel_undrew hk9).mono hB3z)
          have hW9 : IsWr w9 bw (fun k => w.heap.size ≤ k ∧ k ≠ o) (prnC z i) := hW4.kept (bel_undrew hk9)
          have hO9 : w9.heap[o]? = some (.cells (Ev.cells ⟨k, cy, ct, a, b, v⟩).toArray 25 (0, 0)) := ((bel_undrew hk9).block o hoz).trans hO4
          clear hk9 H2 H hW4 hB3 hO4 hst
          obtain ⟨c0, c1, c2, c3, c4, c5⟩ := ev_cells hO9
          simp only at c0 c1 c2 c3 c4 c5
          cases ok
          · have hR2 : prnE z (i + 1) = 5 := by rw [prnE, if_pos HE.out, HEV.out]; rfl
            have HR3 := Lib.hid (show prnE z len = 5 by rw [prnE_mono z (i := i + 1) (by rw [hR2]; decide) (by omega), hR2])
            clear hR2
            go_wp2_with fail
            go_ret2
            rw [HR3.out]
            refine ⟨?_, hB9⟩
            rw [show prnS z len = [] from by unfold prnS; rw [HR3.out]; rfl]
            rfl
          · have hR2 : prnE z (i + 1) = 0 := by rw [prnE, if_pos HE.out, HEV.out]; rfl
            have HR2 := Lib.hid hR2
            clear hR2
            go_wp2_with fail
            refine (HCP.out (by trivial) w9 hW9).mono ?_
            rintro x w10 ⟨rfl, hw⟩
            have hB10 := bel_wr hB9 hw hbw' (fun _ x => x.1) hB9.size
            have hW10 : IsWr w10 bw (fun k => w.heap.size ≤ k) (prnC z (i + 1)) := hw.1.mono fun k hk => hk.elim (fun x => x.1) (fun x => by have := hB9.size; omega)
            clear c0 c1 c2 c3 c4 c5 hw
            go_wp2_with fail
            go_roundw
            case rel => exact ⟨i + 1, by go_num, by omega, HR2.out, hW10, hB10⟩
            case measure => simp [intOf]; omega
      · have hd : ((Ev.mk k cy ct a b v).chk != 0) = true := by simp [hc]
        have hR : evErr (z (i - 1)) (z i) = 3 := by rw [← HEE.out]; unfold evErr; rw [if_neg hc]
        have hR2 : prnE z (i + 1) = 3 := by rw [prnE, if_pos HE.out, hR]
        have HR3 := Lib.hid (show prnE z len = 3 by rw [prnE_mono z (i := i + 1) (by rw [hR2]; decide) (by omega), hR2])
        clear hc hR hR2
        go_wp2_with fail
        go_ret2
        rw [HR3.out]
        refine ⟨?_, hB3⟩
        rw [show prnS z len = [] from by unfold prnS; rw [HR3.out]; rfl]
        rfl
    · obtain rfl : i = len := by omega
      go_wp2_with fail
      refine (string_any hW).mono ?_
      rintro x w2 ⟨rfl, n, rfl⟩
      go_wp2_with fail
      go_ret2
      rw [HE.out]
      refine ⟨?_, below_drewN hB n⟩
      rw [show prnS z i = prnC z i from by unfold prnS; rw [HE.out]; rfl]
      rfl
end Go.Proofs.Ytbfipgeoecbpaaa
/- Contract of the reference of layer 6: Same, at two slices that read alike. No condition but those that it names. -/
namespace Go.Proofs.Ytbfipgeoecbpaaa
open Go.RowKit
set_option maxRecDepth 20000
set_option maxHeartbeats 4000000 in
theorem rsame_eq (w : World) (oa ob : Option Addr) (len cap cap' : Nat) (z : Nat → Ev) (h1 : SlArgN w oa len cap 6 (fun i j => (z i).f j)) (h2 : SlArgN w ob len cap' 6 (fun i j => (z i).f j)) (hlen : len ≤ 1000000) :
    Calls Try.prog 35 #[.slice oa len cap, .slice ob len cap'] w fun x w' => x = .returned (.bool true) ∧ ∃ n, w.drewN n = w' := by
  go_enter Try.func35, Try.ntmps35
  go_wp2_with fail
  go_loopw [5] (fun x wr => ∃ (i n : Nat), x = .int .i64 i ∧ i ≤ len ∧ wr = w.drewN n) (fun x _ => len - (intOf x).toNat)
  case atStart => exact ⟨0, 0, rfl, Nat.zero_le _, rfl⟩
  case round =>
    obtain ⟨i, n, rfl, hi, rfl⟩ := hrel
    by_cases hlt : i < len
    · obtain ⟨g, off, rfl, hg, a0, a1, a2, a3, a4, a5⟩ := six h1 (Below.refl w.heap.size w) (Nat.le_refl _) hlt
      obtain ⟨g', off', rfl, hg', b0, b1, b2, b3, b4, b5⟩ := six h2 (Below.refl w.heap.size w) (Nat.le_refl _) hlt
      have hlt' : (i : Int) < len := by omega
      generalize z i = e at a0 a1 a2 a3 a4 a5 b0 b1 b2 b3 b4 b5
      obtain ⟨k, cy, ct, a, b, v⟩ := e
      simp only at a0 a1 a2 a3 a4 a5 b0 b1 b2 b3 b4 b5
      go_wp2_with fail
      go_quiet (fail)
      go_wp2_with fail
      go_roundw
      case rel => exact ⟨i + 1, n + nq, by go_num, by omega, by first | rfl | exact (World.drewN_drewN _ _ _) | simp⟩
      case measure => simp [intOf]; omega
    · obtain rfl : i = len := by omega
      go_wp2_with fail
      go_ret
      exact ⟨rfl, n, rfl⟩
end Go.Proofs.Ytbfipgeoecbpaaa
/- Contracts of the reference of layer 6: Steps, One. No condition but those that each names. -/
namespace Go.Proofs.Ytbfipgeoecbpaaa
open Go.RowKit
set_option maxRecDepth 20000
/-- What the reference's Steps leaves: the folded drift, where it can be told. -/
def RSt (b e : Ev) (w : World) (x : Ending) (w' : World) : Prop :=
  ∃ s f : Nat, x = .returned (.tuple #[.int .u64 s, .int .u64 f, .bool (Stp b e).2.2]) ∧ ((Stp b e).2.2 = true → s = (Stp b e).1 ∧ f = foldV (Stp b e).2.1) ∧ Below w.heap.size w w'
/-- .. by the three answers. -/
def RSt3 (r : Nat × Int × Bool) (w : World) (x : Ending) (w' : World) : Prop :=
  ∃ s f : Nat, x = .returned (.tuple #[.int .u64 s, .int .u64 f, .bool r.2.2]) ∧ (r.2.2 = true → s = r.1 ∧ f = foldV r.2.1) ∧ Below w.heap.size w w'
theorem mkRSt {r : Nat × Int × Bool} {w : World} {w' : World} {X F : Int} {t : Bool} (s f : Nat) (hX : X = s) (hF : F = f) (ht : t = r.2.2) (hB : Below w.heap.size w w') (h : r.2.2 = true → s = r.1 ∧ f = foldV r.2.1) :
    RSt3 r w (.returned (.tuple #[.int .u64 X, .int .u64 F, .bool t])) w' := by
  subst hX hF ht
  exact ⟨s, f, rfl, h, hB⟩
set_option maxHeartbeats 4000000 in
theorem rsteps_any (b e : Ev) (hb : b.Wf) (he : e.Wf) (w : World) : Calls Try.prog 60 #[b.val, e.val] w (RSt b e w) := by
  show Calls Try.prog 60 #[b.val, e.val] w (RSt3 (Stp b e) w)
  obtain ⟨k, cy, ct, a, bb, v⟩ := e
  obtain ⟨k', cy', ct', a', b', v'⟩ := b
  have h1 := he.cy
  have h2 := he.ct
  have h3 := hb.cy
  have h4 := hb.ct
  simp only at h1 h2 h3 h4
  clear he hb
  unfold Ev.val
  simp only
  have hB := fun o o' => ((Below.refl w.heap.size w).alloc (Nat.le_refl _) o).alloc (by simp) o'
  by_cases q1 : ct < ct'
  · have hr : Stp ⟨k', cy', ct', a', b', v'⟩ ⟨k, cy, ct, a, bb, v⟩ = (0, 0, false) := by unfold Stp; rw [if_pos (.inl q1)]
    rw [hr]
    clear hr
    go_enter Try.func60, Try.ntmps60
    go_wp2
    go_ret3
    exact mkRSt 0 0 rfl rfl rfl (hB _ _) (fun h => by cases h)
  · by_cases q2 : cy < cy'
    · have hr : Stp ⟨k', cy', ct', a', b', v'⟩ ⟨k, cy, ct, a, bb, v⟩ = (0, 0, false) := by unfold Stp; rw [if_pos (.inr q2)]
      rw [hr]
      clear hr
      have q1' : ct' ≤ ct := by omega
      clear q1
      go_enter Try.func60, Try.ntmps60
      go_wp2
      go_ret3
      exact mkRSt 0 0 rfl rfl rfl (hB _ _) (fun h => by cases h)
    · obtain ⟨s, rfl⟩ : ∃ s, ct = ct' + s := ⟨ct - ct', by omega⟩
      obtain ⟨g, rfl⟩ : ∃ g, cy = cy' + g := ⟨cy - cy', by omega⟩
      clear q1 q2
      have z1 : (ct' : Int) + s - ct' = s := by omega
      have z2 : (cy' : Int) + g - cy' = g := by omega
      have hE : Stp ⟨k', cy', ct', a', b', v'⟩ ⟨k, cy' + g, ct' + s, a, bb, v⟩ = if 4294967295 < s ∨ (s < g ∧ 2147483648 ≤ g - s) ∨ (g < s ∧ 2147483648 < s - g) then (0, 0, false) else (s, (g : Int) - s, true) := by
        unfold Stp
        rw [if_neg (by simp only; omega)]
        simp only [Nat.add_sub_cancel_left]
      rw [hE]
      clear hE
      by_cases r1 : 4294967295 < s
      · rw [if_pos (.inl r1)]
        have r1' : (4294967295 : Int) < s := by omega
        clear r1
        go_enter Try.func60, Try.ntmps60
        go_wp2
        go_ret3
        exact mkRSt 0 0 rfl rfl rfl (hB _ _) (fun h => by cases h)
      · have r1' : (s : Int) ≤ 4294967295 := by omega
        by_cases g1 : s ≤ g
        · have g1' : (s : Int) ≤ g := by omega
          by_cases r2 : 2147483648 ≤ g - s
          · rw [if_pos (.inr (.inl ⟨by omega, r2⟩))]
            have r2' : (2147483648 : Int) ≤ g - s := by omega
            have d2 : decide ((g : Int) - s < 2147483648) = false := by simp; omega
            clear r1
            go_enter Try.func60, Try.ntmps60
            go_wp2
            go_ret3
            exact mkRSt s ((2 * (g - s)) % 18446744073709551616) rfl (by first | omega | (rw [IntKind.wrap_u64]; omega)) (by first | rfl | simpa using r2') (hB _ _) (fun h => by cases h)
          · rw [if_neg (by omega)]
            have r2' : (g : Int) - s < 2147483648 := by omega
            clear r1
            go_enter Try.func60, Try.ntmps60
            go_wp2
            go_ret3
            exact mkRSt s (2 * (g - s)) rfl (by omega) (by first | rfl | simpa using r2') (hB _ _) (fun _ => ⟨rfl, by show _ = foldV ((g : Int) - s); unfold foldV; rw [if_pos (by omega)]; omega⟩)
        · have g1' : (g : Int) < s := by omega
          by_cases r2 : 2147483648 < s - g
          · rw [if_pos (.inr (.inr ⟨by omega, r2⟩))]
            have r2' : (2147483648 : Int) < s - g := by omega
            have d2 : decide ((s : Int) - g ≤ 2147483648) = false := by simp; omega
            clear r1
            go_enter Try.func60, Try.ntmps60
            go_wp2
            go_ret3
            exact mkRSt s (2 * (s - g) - 1) rfl (by omega) (by first | rfl | simpa using r2') (hB _ _) (fun h => by cases h)
          · rw [if_neg (by omega)]
            have r2' : (s : Int) - g ≤ 2147483648 := by omega
            clear r1
            go_enter Try.func60, Try.ntmps60
            go_wp2
            go_ret3
            exact mkRSt s (2 * (s - g) - 1) rfl (by omega) (by first | rfl | simpa using r2') (hB _ _) (fun _ => ⟨rfl, by show _ = foldV ((g : Int) - s); unfold foldV; rw [if_neg (by omega)]; omega⟩)
end Go.Proofs.Ytbfipgeoecbpaaa
/- Contract of the reference of layer 6: One. No condition but those that it names. -/
namespace Go.Proofs.Ytbfipgeoecbpaaa
open Go.RowKit
set_option maxRecDepth 20000
theorem run_str_one {P : Program} {src dst e : Nat} (hs : P.underlying src = some (.slice e)) (he : P.underlying e = some (.int .u8)) (hd : P.underlying dst = some .string) (w : World) (b : Nat) (u : UInt8) (hc : w.cell? ⟨b, 0, none⟩ = some (.int .u8 u.toNat)) :
    (convert src dst (.slice (some ⟨b, 0, none⟩) 1 1)).run P w = .ok (.string ⟨#[u]⟩) w := by
  rw [run_convert_bytes_string w src dst e (some ⟨b, 0, none⟩) 1 1 hs he hd]
  have hcells : ∀ j x, (bv [u])[j]? = some x → w.cell? ((⟨b, 0, none⟩ : Addr).add j) = some x := by
    intro j x hj
    match j, hj with
    | 0, hj => simp [bv] at hj; subst hj; simpa [Addr.add] using hc
    | j + 1, hj => simp [bv] at hj
  have hl := run_loadCells_list (P := P) w ⟨b, 0, none⟩ (bv [u]) hcells
  have hb : bv [u] = ([u].map fun b => (b.toNat : Int)).map (Value.int .u8) := by simp [bv]
  rw [hb, List.length_map, List.length_map] at hl
  refine (run_bytesToString (P := P) w ⟨b, 0, none⟩ 1 1 ([u].map fun b => (b.toNat : Int)) hl).trans ?_
  congr 2
  rw [fold_push]
  rfl
theorem str_cat (l m : List UInt8) : (⟨l.toArray⟩ : ByteArray) ++ ⟨m.toArray⟩ = ⟨(l ++ m).toArray⟩ := by
  apply ByteArray.ext
  simp
theorem str_cat3 (u : UInt8) (l m : List UInt8) : (⟨#[u]⟩ : ByteArray) ++ ⟨l.toArray⟩ ++ ⟨m.toArray⟩ = ⟨([u] ++ l ++ m).toArray⟩ := by
  rw [show (⟨#[u]⟩ : ByteArray) = ⟨[u].toArray⟩ from rfl, str_cat, str_cat]
/-- Where One stands: the event lies boxed in block g, what its kind has in block h. -/
structure OSt (w : World) (g h : Nat) (e : Ev) (xa xb xv : Bool) (w1 : World) : Prop where
  bel : Below w.heap.size w w1
  blk : w1.heap[g]? = some (.cells e.cells.toArray 25 (0, 0))
  has : w1.heap[h]? = some (.cells #[.bool xa, .bool xb, .bool xv] 144 (0, 0))
theorem OSt.below {w : World} {g h : Nat} {e : Ev} {xa xb xv : Bool} {w1 w2 : World} (s : OSt w g h e xa xb xv w1) (k : Below w1.heap.size w1 w2) : OSt w g h e xa xb xv w2 :=
  ⟨bel_start s.bel k, (k.block _ (blk_lt s.blk)).trans s.blk, (k.block _ (blk_lt s.has)).trans s.has⟩
theorem OSt.cells {w : World} {g h : Nat} {e : Ev} {xa xb xv : Bool} {w1 : World} (s : OSt w g h e xa xb xv w1) : w1.cell? ⟨h, 0, none⟩ = some (.bool xa) ∧ w1.cell? ⟨h, 1, none⟩ = some (.bool xb) ∧ w1.cell? ⟨h, 2, none⟩ = some (.bool xv) :=
  ⟨by rw [cell_blk s.has]; rfl, by rw [cell_blk s.has]; rfl, by rw [cell_blk s.has]; rfl⟩
theorem OSt.mk' {w w1 w2 : World} {g : Nat} {e : Ev} {xa xb xv : Bool} (hB : Below w.heap.size w w1) (hb : w1.heap[g]? = some (.cells e.cells.toArray 25 (0, 0))) (k : Below w1.heap.size w1 w2) :
    OSt w g w2.heap.size e xa xb xv (w2.alloc (.cells #[.bool xa, .bool xb, .bool xv] 144)) :=
  ⟨(bel_start hB k).alloc (bel_start hB k).size _, blk_alloc ((k.block _ (blk_lt hb)).trans hb) _, heap_alloc_new w2 _⟩
set_option maxHeartbeats 8000000 in
theorem rone_any (e : Ev) (hk : isK e.k = true) (he : e.Wf) (s f : Nat) (hs : s < U64) (hf : f < U64) (w : World) :
    Calls Try.prog 61 #[e.val, .int .u64 s, .int .u64 f] w fun x w' => x = .returned (.string ⟨([UInt8.ofNat e.k.toNat] ++ leb 10 s ++ leb 10 f ++ (if hasA e.k = true then leb 10 e.a else []) ++ (if hasB e.k = true then leb 10 e.b else []) ++ (if hasV e.k = true then leb 10 e.v else [])).toArray⟩) ∧ Below w.heap.size w w' := by
  obtain ⟨k, cy, ct, a, bb, v⟩ := e
  have hblk : (w.alloc (.cells #[.int .i64 k, .int .u64 cy, .int .u64 ct, .int .u32 a, .int .u32 bb, .int .u32 v] 25)).heap[w.heap.size]? = some (.cells (Ev.cells ⟨k, cy, ct, a, bb, v⟩).toArray 25 (0, 0)) := heap_alloc_new w _
  have hB0 := (Below.refl w.heap.size w).alloc (Nat.le_refl _) (.cells #[.int .i64 k, .int .u64 cy, .int .u64 ct, .int .u32 a, .int .u32 bb, .int .u32 v] 25)
  have hkb := k_byte hk
  simp only at hkb
  have l1 := leb_len_le 10 s
  have l2 := leb_len_le 10 f
  have l3 := leb_len_le 10 a
  have l4 := leb_len_le 10 bb
  have l5 := leb_len_le 10 v
  obtain ⟨u, hu⟩ : ∃ u : UInt8, u = UInt8.ofNat k.toNat := ⟨_, rfl⟩
  have a32 := he.a
  have b32 := he.b
  have v32 := he.v
  simp only at a32 b32 v32
  have A64 := Lib.hid (show a < U64 by unfold U64; omega)
  have B64 := Lib.hid (show bb < U64 by unfold U64; omega)
  have V64 := Lib.hid (show v < U64 by unfold U64; omega)
  have hp := fun (n : Nat) (hn : Hid (n < U64)) (x : World) => rprint_any n hn.out x
  have HS := Lib.hid hs
  have HF := Lib.hid hf
  have hh := fun x => rhas_any k x
  simp only
  generalize hasA k = xa at hh ⊢
  generalize hasB k = xb at hh ⊢
  generalize hasV k = xv at hh ⊢
  unfold Ev.val
  simp only
  have k0 : 1 ≤ k ∧ k ≤ 24 := by simpa [isK] using hk
  have k1 := k0.1
  have k2 := k0.2
  have hwk : IntKind.u8.wrap k = (u.toNat : Int) := by rw [hu, ← hkb, IntKind.wrap_u8]
  rw [← hu]
  have hcv := fun (x : World) (b : Nat) (hc : x.cell? ⟨b, 0, none⟩ = some (.int .u8 u.toNat)) => run_str_one (P := Try.prog) (src := 97) (dst := 9) ul_bytes (by kernel_rfl) ul_string x b u hc
  clear he hk hs hf hkb k0 hu
  go_enter Try.func61, Try.ntmps61
  go_upto_region 1 with fail
  generalize w.alloc (.cells #[.int .i64 k, .int .u64 cy, .int .u64 ct, .int .u32 a, .int .u32 bb, .int .u32 v] 25) = W at hblk hB0 ⊢
  have hgW := blk_lt hblk
  generalize hg : w.heap.size = g at hblk hgW ⊢
  go_cut [7] (fun s7 wx => s7 = .string ⟨([u] ++ leb 10 s ++ leb 10 f).toArray⟩ ∧ Below w.heap.size w wx ∧ wx.heap[g]? = some (.cells (Ev.cells ⟨k, cy, ct, a, bb, v⟩).toArray 25 (0, 0)))
  case first =>
    have key : ∀ Z : World, Below W.heap.size W Z → Below w.heap.size w Z ∧ Z.heap[g]? = some (.cells (Ev.cells ⟨k, cy, ct, a, bb, v⟩).toArray 25 (0, 0)) := fun Z hZ => ⟨bel_start hB0 hZ, (hZ.block _ hgW).trans hblk⟩
    obtain ⟨c0, _⟩ := ev_cells hblk
    simp only at c0
    go_region_held (fun w' => w'.cell? ⟨g, 0, none⟩ = some (.int .i64 k)) (go_keep) (first | (go_at_call_of 85 (Value.int .u64 (s : Int)); (refine (hp s HS _).mono ?_); rintro x w1 ⟨rfl, hk1⟩; obtain ⟨hc1, _⟩ := bcell hk1; have hz1 := hk1.size; (try simp at hz1); (first | have hy1 := Nat.lt_of_succ_le hz1 | skip); have hkc1 : w1.cell? ⟨g, 0, none⟩ = some (.int .i64 k) := by (rw [hk1.cell (p := ⟨g, 0, none⟩) (by first | omega | (simp; omega))]; first | assumption | go_keep | simp [*])) | (go_at_call_of 85 (Value.int .u64 (f : Int)); (refine (hp f HF _).mono ?_); rintro x w2 ⟨rfl, hk2⟩; obtain ⟨hc2, _⟩ := bcell hk2; have hz2 := hk2.size; (try simp at hz2); (first | have hy2 := Nat.lt_of_succ_le hz2 | skip); have hkc2 : w2.cell? ⟨g, 0, none⟩ = some (.int .i64 k) := by (rw [hk2.cell (p := ⟨g, 0, none⟩) (by first | omega | (simp; omega))]; first | assumption | go_keep | simp [*])))
    all_goals (go_wp2_with fail; go_meet; refine ⟨by rw [str_cat3], key _ ?_⟩)
    all_goals (repeat (first | exact Below.refl _ _ | refine Below.drew ?_ | refine Below.trans ?_ (Below.mono hk2 ?_) | refine Below.trans ?_ (Below.mono hk1 ?_) | refine Below.alloc ?_ ?_ _))
    all_goals first | omega | (simp <;> omega)
  case rest =>
    obtain ⟨rfl, hcut⟩ := hcut
    clear hblk hgW hB0 hg hcv hwk
    generalize hL4 : [u] ++ leb 10 s ++ leb 10 f = L4
    have hl4 : L4.length ≤ 21 := by rw [← hL4]; simp; omega
    have HL4 := Lib.hid hL4
    clear hL4
    obtain ⟨hB1, hblk1⟩ := hcut
    obtain ⟨c0, c1, c2, c3, c4, c5⟩ := ev_cells hblk1
    simp only at c0 c1 c2 c3 c4 c5
    go_wp2_with fail
    refine (hh _).mono ?_
    rintro x w2 ⟨rfl, hk⟩
    have st2 : OSt w g w2.heap.size ⟨k, cy, ct, a, bb, v⟩ xa xb xv (w2.alloc (.cells #[.bool xa, .bool xb, .bool xv] 144)) := OSt.mk' hB1 hblk1 hk
    have hblk2 := (hk.block _ (blk_lt hblk1)).trans hblk1
    have hg2 := blk_lt hblk2
    clear hk hB1 hblk1 c0 c1 c2 c3 c4 c5 hh
    obtain ⟨c0, c1, c2, c3, c4, c5⟩ := ev_cells hblk2
    simp only at c0 c1 c2 c3 c4 c5
    clear hblk2
    cases xa <;> cases xb <;> cases xv
    · go_wp2_with fail
      go_ret
      refine ⟨?_, st2.bel⟩
      rw [← HL4.out]
      first | rfl | (simp only [str_cat]; done) | (simp [str_cat]; done)
    · go_wp2_with fail
      refine (hp v V64 _).mono ?_
      rintro x w3 ⟨rfl, hk⟩
      have st3 := st2.below hk
      clear hk st2 c0 c1 c2 c3 c4 c5
      obtain ⟨c0, c1, c2, c3, c4, c5⟩ := ev_cells st3.blk
      obtain ⟨d0, d1, d2⟩ := st3.cells
      simp only at c0 c1 c2 c3 c4 c5
      go_wp2_with fail
      go_ret
      refine ⟨?_, st3.bel⟩
      rw [← HL4.out]
      first | rfl | (simp only [str_cat]; done) | (simp [str_cat]; done)
    · go_wp2_with fail
      refine (hp bb B64 _).mono ?_
      rintro x w3 ⟨rfl, hk⟩
      have st3 := st2.below hk
      clear hk st2 c0 c1 c2 c3 c4 c5
      obtain ⟨c0, c1, c2, c3, c4, c5⟩ := ev_cells st3.blk
      obtain ⟨d0, d1, d2⟩ := st3.cells
      simp only at c0 c1 c2 c3 c4 c5
      go_wp2_with fail
      go_ret
      refine ⟨?_, st3.bel⟩
      rw [← HL4.out]
      first | rfl | (simp only [str_cat]; done) | (simp [str_cat]; done)
    · go_wp2_with fail
      refine (hp bb B64 _).mono ?_
      rintro x w3 ⟨rfl, hk⟩
      have st3 := st2.below hk
      clear hk st2 c0 c1 c2 c3 c4 c5
      obtain ⟨c0, c1, c2, c3, c4, c5⟩ := ev_cells st3.blk
      obtain ⟨d0, d1, d2⟩ := st3.cells
      simp only at c0 c1 c2 c3 c4 c5
      go_wp2_with fail
      refine (hp v V64 _).mono ?_
      rintro x w4 ⟨rfl, hk⟩
      have st4 := st3.below hk
      clear hk st3 c0 c1 c2 c3 c4 c5 d0 d1 d2
      obtain ⟨c0, c1, c2, c3, c4, c5⟩ := ev_cells st4.blk
      obtain ⟨d0, d1, d2⟩ := st4.cells
      simp only at c0 c1 c2 c3 c4 c5
      go_wp2_with fail
      go_ret
      refine ⟨?_, st4.bel⟩
      rw [← HL4.out]
      first | rfl | (simp only [str_cat]; done) | (simp [str_cat]; done)
    · go_wp2_with fail
      refine (hp a A64 _).mono ?_
      rintro x w3 ⟨rfl, hk⟩
      have st3 := st2.below hk
      clear hk st2 c0 c1 c2 c3 c4 c5
      obtain ⟨c0, c1, c2, c3, c4, c5⟩ := ev_cells st3.blk
      obtain ⟨d0, d1, d2⟩ := st3.cells
      simp only at c0 c1 c2 c3 c4 c5
      go_wp2_with fail
      go_ret
      refine ⟨?_, st3.bel⟩
      rw [← HL4.out]
      first | rfl | (simp only [str_cat]; done) | (simp [str_cat]; done)
    · go_wp2_with fail
      refine (hp a A64 _).mono ?_
      rintro x w3 ⟨rfl, hk⟩
      have st3 := st2.below hk
      clear hk st2 c0 c1 c2 c3 c4 c5
      obtain ⟨c0, c1, c2, c3, c4, c5⟩ := ev_cells st3.blk
      obtain ⟨d0, d1, d2⟩ := st3.cells
      simp only at c0 c1 c2 c3 c4 c5
      go_wp2_with fail
      refine (hp v V64 _).mono ?_
      rintro x w4 ⟨rfl, hk⟩
      have st4 := st3.below hk
      clear hk st3 c0 c1 c2 c3 c4 c5 d0 d1 d2
      obtain ⟨c0, c1, c2, c3, c4, c5⟩ := ev_cells st4.blk
      obtain ⟨d0, d1, d2⟩ := st4.cells
      simp only at c0 c1 c2 c3 c4 c5
      go_wp2_with fail
      go_ret
      refine ⟨?_, st4.bel⟩
      rw [← HL4.out]
      first | rfl | (simp only [str_cat]; done) | (simp [str_cat]; done)
    · go_wp2_with fail
      refine (hp a A64 _).mono ?_
      rintro x w3 ⟨rfl, hk⟩
      have st3 := st2.below hk
      clear hk st2 c0 c1 c2 c3 c4 c5
      obtain ⟨c0, c1, c2, c3, c4, c5⟩ := ev_cells st3.blk
      obtain ⟨d0, d1, d2⟩ := st3.cells
      simp only at c0 c1 c2 c3 c4 c5
      go_wp2_with fail
      refine (hp bb B64 _).mono ?_
      rintro x w4 ⟨rfl, hk⟩
      have st4 := st3.below hk
      clear hk st3 c0 c1 c2 c3 c4 c5 d0 d1 d2
      obtain ⟨c0, c1, c2, c3, c4, c5⟩ := ev_cells st4.blk
      obtain ⟨d0, d1, d2⟩ := st4.cells
      simp only at c0 c1 c2 c3 c4 c5
      go_wp2_with fail
      go_ret
      refine ⟨?_, st4.bel⟩
      rw [← HL4.out]
      first | rfl | (simp only [str_cat]; done) | (simp [str_cat]; done)
    · go_wp2_with fail
      refine (hp a A64 _).mono ?_
      rintro x w3 ⟨rfl, hk⟩
      have st3 := st2.below hk
      clear hk st2 c0 c1 c2 c3 c4 c5
      obtain ⟨c0, c1, c2, c3, c4, c5⟩ := ev_cells st3.blk
      obtain ⟨d0, d1, d2⟩ := st3.cells
      simp only at c0 c1 c2 c3 c4 c5
      go_wp2_with fail
      refine (hp bb B64 _).mono ?_
      rintro x w4 ⟨rfl, hk⟩
      have st4 := st3.below hk
      clear hk st3 c0 c1 c2 c3 c4 c5 d0 d1 d2
      obtain ⟨c0, c1, c2, c3, c4, c5⟩ := ev_cells st4.blk
      obtain ⟨d0, d1, d2⟩ := st4.cells
      simp only at c0 c1 c2 c3 c4 c5
      go_wp2_with fail
      refine (hp v V64 _).mono ?_
      rintro x w5 ⟨rfl, hk⟩
      have st5 := st4.below hk
      clear hk st4 c0 c1 c2 c3 c4 c5 d0 d1 d2
      obtain ⟨c0, c1, c2, c3, c4, c5⟩ := ev_cells st5.blk
      obtain ⟨d0, d1, d2⟩ := st5.cells
      simp only at c0 c1 c2 c3 c4 c5
      go_wp2_with fail
      go_ret
      refine ⟨?_, st5.bel⟩
      rw [← HL4.out]
      first | rfl | (simp only [str_cat]; done) | (simp [str_cat]; done)
end Go.Proofs.Ytbfipgeoecbpaaa
/- Contract of the reference of layer 6: Print. No condition but those that it names. -/
namespace Go.Proofs.Ytbfipgeoecbpaaa
open Go.RowKit
set_option maxRecDepth 20000
set_option maxHeartbeats 8000000 in
theorem rprn_any (w : World) (oa : Option Addr) (len cap : Nat) (z : Nat → Ev) (hsl : SlArgN w oa len cap 6 (fun i j => (z i).f j)) (hz : ∀ i, i < len → (z i).Wf) (hlen : len ≤ 100000) :
    Calls Try.prog 27 #[.slice oa len cap] w fun x w' => x = .returned (.tuple #[.string ⟨(prnS z len).toArray⟩, .int .i64 (prnE z len)]) ∧ Below w.heap.size w w' := by
  have HZ := Lib.hid hz
  clear hz
  go_enter Try.func27, Try.ntmps27
  go_wp2_with fail
  go_loopw [4, 5] (fun y x wr => ∃ i : Nat, y = .string ⟨(prnC z i).toArray⟩ ∧ x = .int .i64 i ∧ i ≤ len ∧ prnE z i = 0 ∧ Below w.heap.size w wr) (fun _ x _ => len - (intOf x).toNat)
  case atStart => exact ⟨0, rfl, rfl, Nat.zero_le _, rfl, Below.refl _ _⟩
  case round =>
    obtain ⟨i, rfl, rfl, hi, he, hB⟩ := hrel
    have HE := Lib.hid he
    clear he
    by_cases hlt : i < len
    · obtain ⟨g, off, rfl, hg, a0, a1, a2, a3, a4, a5⟩ := six hsl hB (Nat.le_refl _) hlt
      have hlt' : (i : Int) < len := by omega
      obtain ⟨e, hE⟩ : ∃ e, e = z i := ⟨_, rfl⟩
      rw [← hE] at a0 a1 a2 a3 a4 a5
      have hEw : e.Wf := hE ▸ HZ.out i hlt
      have HEE := Lib.hid hE
      clear hE
      have hck := fun x => rcheck_any e x
      have HW := Lib.hid hEw
      clear hEw
      obtain ⟨k, cy, ct, a, b, v⟩ := e
      simp only [Ev.val] at a0 a1 a2 a3 a4 a5 hck
      go_wp2_with fail
      refine (hck _).mono ?_
      rintro x w2 ⟨rfl, hk⟩
      have hB3 := hB.trans (hk.mono hB.size)
      clear hk hB hck a0 a1 a2 a3 a4 a5
      by_cases hc : (Ev.mk k cy ct a b v).chk = 0
      · rw [hc]
        obtain ⟨g9, off9, hgo, hg9, a0, a1, a2, a3, a4, a5⟩ := six hsl hB3 (Nat.le_refl _) hlt
        cases hgo
        rw [← HEE.out] at a0 a1 a2 a3 a4 a5
        simp only at a0 a1 a2 a3 a4 a5
        obtain ⟨pe, hP⟩ : ∃ pe, pe = z (i - 1) := ⟨_, rfl⟩
        have hst := fun x => rsteps_any pe ⟨k, cy, ct, a, b, v⟩ (hP ▸ HZ.out (i - 1) (by omega)) HW.out x
        have hev : evErr (z (i - 1)) (z i) = if (Stp pe ⟨k, cy, ct, a, b, v⟩).2.2 = true then 0 else 5 := by rw [← HEE.out, ← hP]; unfold evErr; rw [if_pos hc]
        have HK := Lib.hid (chk_ok hc).1
        simp only at HK
        have HPE := Lib.hid hP
        clear hc
        obtain ⟨k', cy', ct', a', b', v'⟩ := pe
        simp only [Ev.val] at hst
        have hx := hB3.size
        have hd0 : ((0 : Int) != 0) = false := rfl
        rcases Nat.eq_zero_or_pos i with hi0 | hi0
        · have hpq : (⟨k, cy, ct, a, b, v⟩ : Ev) = ⟨k', cy', ct', a', b', v'⟩ := by rw [HEE.out, HPE.out, hi0]
          simp only [Ev.mk.injEq] at hpq
          obtain ⟨e1, e2, e3, e4, e5, e6⟩ := hpq
          subst e1 e2 e3 e4 e5 e6
          have hi1 : (i : Int) ≤ 0 := by omega
          have HI := Lib.hid hi0
          clear hi0 hP
          have hO : (w2.alloc (.cells #[.int .i64 k, .int .u64 cy, .int .u64 ct, .int .u32 a, .int .u32 b, .int .u32 v] 25)).heap[w2.heap.size]? = some (.cells (Ev.cells ⟨k, cy, ct, a, b, v⟩).toArray 25 (0, 0)) := heap_alloc_new w2 _
          have hB4 := hB3.alloc hx (.cells #[.int .i64 k, .int .u64 cy, .int .u64 ct, .int .u32 a, .int .u32 b, .int .u32 v] 25)
          go_wp2_with fail
          obtain ⟨g9, off9, hgo, hg9, a0, a1, a2, a3, a4, a5⟩ := six hsl hB4 (Nat.le_refl _) hlt
          cases hgo
          rw [← HEE.out] at a0 a1 a2 a3 a4 a5
          simp only at a0 a1 a2 a3 a4 a5
          generalize w2.alloc (.cells #[.int .i64 k, .int .u64 cy, .int .u64 ct, .int .u32 a, .int .u32 b, .int .u32 v] 25) = W at hO hB4 a0 a1 a2 a3 a4 a5 ⊢
          generalize w2.heap.size = o at hO hx ⊢
          have hoz := blk_lt hO
          have hWz := hB4.size
          obtain ⟨d0, d1, d2, d3, d4, d5⟩ := ev_cells hO
          simp only at d0 d1 d2 d3 d4 d5
          clear hO
          have H := And.intro a0 (And.intro a1 (And.intro a2 (And.intro a3 (And.intro a4 (And.intro a5 (And.intro d0 (And.intro d1 (And.intro d2 (And.intro d3 (And.intro d4 d5))))))))))
          clear a0 a1 a2 a3 a4 a5 d0 d1 d2 d3 d4 d5
          go_region_held3 (fun w' => w'.cell? ⟨g, off + i * 6, none⟩ = some (.int .i64 k) ∧ w'.cell? ⟨g, off + i * 6 + 1, none⟩ = some (.int .u64 cy) ∧ w'.cell? ⟨g, off + i * 6 + 2, none⟩ = some (.int .u64 ct) ∧ w'.cell? ⟨g, off + i * 6 + 3, none⟩ = some (.int .u32 a) ∧ w'.cell? ⟨g, off + i * 6 + 4, none⟩ = some (.int .u32 b) ∧ w'.cell? ⟨g, off + i * 6 + 5, none⟩ = some (.int .u32 v) ∧ w'.cell? ⟨o, 0, none⟩ = some (.int .i64 k) ∧ w'.cell? ⟨o, 1, none⟩ = some (.int .u64 cy) ∧ w'.cell? ⟨o, 2, none⟩ = some (.int .u64 ct) ∧ w'.cell? ⟨o, 3, none⟩ = some (.int .u32 a) ∧ w'.cell? ⟨o, 4, none⟩ = some (.int .u32 b) ∧ w'.cell? ⟨o, 5, none⟩ = some (.int .u32 v)) (first | exact H | exact H2) (first | (go_at_call 60; (refine (hst _).mono ?_); rintro x w9 ⟨s, f, rfl, hsf, hk9⟩; have H2 : w9.cell? ⟨g, off + i * 6, none⟩ = some (.int .i64 k) ∧ w9.cell? ⟨g, off + i * 6 + 1, none⟩ = some (.int .u64 cy) ∧ w9.cell? ⟨g, off + i * 6 + 2, none⟩ = some (.int .u64 ct) ∧ w9.cell? ⟨g, off + i * 6 + 3, none⟩ = some (.int .u32 a) ∧ w9.cell? ⟨g, off + i * 6 + 4, none⟩ = some (.int .u32 b) ∧ w9.cell? ⟨g, off + i * 6 + 5, none⟩ = some (.int .u32 v) ∧ w9.cell? ⟨o, 0, none⟩ = some (.int .i64 k) ∧ w9.cell? ⟨o, 1, none⟩ = some (.int .u64 cy) ∧ w9.cell? ⟨o, 2, none⟩ = some (.int .u64 ct) ∧ w9.cell? ⟨o, 3, none⟩ = some (.int .u32 a) ∧ w9.cell? ⟨o, 4, none⟩ = some (.int .u32 b) ∧ w9.cell? ⟨o, 5, none⟩ = some (.int .u32 v) := twelve hk9 (by omega) hoz H))
          have hB9 : Below w.heap.size w w9 := hB4.trans ((bel_undrew hk9).mono hB4.size)
          clear hk9 H2 H hB4 hst
          obtain ⟨g9, off9, hgo, hg9, a0, a1, a2, a3, a4, a5⟩ := six hsl hB9 (Nat.le_refl _) hlt
          cases hgo
          rw [← HEE.out] at a0 a1 a2 a3 a4 a5
          simp only at a0 a1 a2 a3 a4 a5
          have HEV := Lib.hid hev
          clear hev
          cases hok : (Stp ⟨k, cy, ct, a, b, v⟩ ⟨k, cy, ct, a, b, v⟩).2.2
          · have hR2 : prnE z (i + 1) = 5 := by rw [prnE, if_pos HE.out, HEV.out, hok]; rfl
            have HR3 := Lib.hid (show prnE z len = 5 by rw [prnE_mono z (i := i + 1) (by rw [hR2]; decide) (by omega), hR2])
            clear hR2 hsf
            go_wp2_with fail
            go_ret2
            rw [HR3.out]
            refine ⟨?_, hB9⟩
            rw [show prnS z len = [] from by unfold prnS; rw [HR3.out]; rfl]
            rfl
          · obtain ⟨hs1, hf1⟩ := hsf hok
            have hy := stp_yes hok
            have h64 := HW.out.ct
            simp only at h64
            have hs64 : s < U64 := by rw [hs1]; unfold U64; omega
            have hf64 : f < U64 := by rw [hf1]; exact fold_lt _ (by omega) (by omega)
            have hby : prnC z (i + 1) = prnC z i ++ ([UInt8.ofNat k.toNat] ++ leb 10 s ++ leb 10 f ++ (if hasA k = true then leb 10 a else []) ++ (if hasB k = true then leb 10 b else []) ++ (if hasV k = true then leb 10 v else [])) := by
              rw [prnC, ← HEE.out, ← HPE.out, hs1, hf1]; rfl
            have hon := fun x => rone_any ⟨k, cy, ct, a, b, v⟩ HK.out HW.out s f hs64 hf64 x
            simp only [Ev.val] at hon
            have hR2 : prnE z (i + 1) = 0 := by rw [prnE, if_pos HE.out, HEV.out, hok]; rfl
            have HR2 := Lib.hid hR2
            have hl := prnC_len z (i + 1)
            clear hR2 hs1 hf1 hy h64 hs64 hf64 hok
            rw [hby, List.length_append] at hl
            generalize [UInt8.ofNat k.toNat] ++ leb 10 s ++ leb 10 f ++ (if hasA k = true then leb 10 a else []) ++ (if hasB k = true then leb 10 b else []) ++ (if hasV k = true then leb 10 v else []) = Y at hby hon hl
            have HBY := Lib.hid hby
            clear hby
            have hl2 : (prnC z i).length + Y.length ≤ 51 * 100001 := by omega
            clear hl
            go_wp2_with fail
            refine (hon _).mono ?_
            rintro x w10 ⟨rfl, hk⟩
            have hB10 := hB9.trans (hk.mono hB9.size)
            clear hk a0 a1 a2 a3 a4 a5 hon
            go_wp2_with fail
            go_roundw
            case rel => exact ⟨i + 1, by rw [HBY.out, str_cat], by go_num, by omega, HR2.out, hB10⟩
            case measure => simp [intOf]; omega
        · have hi1 : (0 : Int) < i := by omega
          obtain ⟨g9, off9, hgo, hg9, p0, p1, p2, p3, p4, p5⟩ := six (i := i - 1) hsl (hB3.alloc hx (.cells #[.int .i64 k, .int .u64 cy, .int .u64 ct, .int .u32 a, .int .u32 b, .int .u32 v] 25)) (Nat.le_refl _) (by omega)
          cases hgo
          rw [← HPE.out] at p0 p1 p2 p3 p4 p5
          simp only at p0 p1 p2 p3 p4 p5
          have hl1 : (i : Int) - 1 < len := by omega
          have hnn : ((i : Int) - 1).toNat = i - 1 := by omega
          have hnl : i - 1 < len := by omega
          have hO : (w2.alloc (.cells #[.int .i64 k', .int .u64 cy', .int .u64 ct', .int .u32 a', .int .u32 b', .int .u32 v'] 25)).heap[w2.heap.size]? = some (.cells (Ev.cells ⟨k', cy', ct', a', b', v'⟩).toArray 25 (0, 0)) := heap_alloc_new w2 _
          have hB4 := hB3.alloc hx (.cells #[.int .i64 k', .int .u64 cy', .int .u64 ct', .int .u32 a', .int .u32 b', .int .u32 v'] 25)
          clear hP
          go_wp2_with fail
          obtain ⟨g9, off9, hgo, hg9, a0, a1, a2, a3, a4, a5⟩ := six hsl hB4 (Nat.le_refl _) hlt
          cases hgo
          rw [← HEE.out] at a0 a1 a2 a3 a4 a5
          simp only at a0 a1 a2 a3 a4 a5
          clear p0 p1 p2 p3 p4 p5
          generalize w2.alloc (.cells #[.int .i64 k', .int .u64 cy', .int .u64 ct', .int .u32 a', .int .u32 b', .int .u32 v'] 25) = W at hO hB4 a0 a1 a2 a3 a4 a5 ⊢
          generalize w2.heap.size = o at hO hx ⊢
          have hoz := blk_lt hO
          have hWz := hB4.size
          obtain ⟨d0, d1, d2, d3, d4, d5⟩ := ev_cells hO
          simp only at d0 d1 d2 d3 d4 d5
          clear hO
          have H := And.intro a0 (And.intro a1 (And.intro a2 (And.intro a3 (And.intro a4 (And.intro a5 (And.intro d0 (And.intro d1 (And.intro d2 (And.intro d3 (And.intro d4 d5))))))))))
          clear a0 a1 a2 a3 a4 a5 d0 d1 d2 d3 d4 d5
          go_region_held3 (fun w' => w'.cell? ⟨g, off + i * 6, none⟩ = some (.int .i64 k) ∧ w'.cell? ⟨g, off + i * 6 + 1, none⟩ = some (.int .u64 cy) ∧ w'.cell? ⟨g, off + i * 6 + 2, none⟩ = some (.int .u64 ct) ∧ w'.cell? ⟨g, off + i * 6 + 3, none⟩ = some (.int .u32 a) ∧ w'.cell? ⟨g, off + i * 6 + 4, none⟩ = some (.int .u32 b) ∧ w'.cell? ⟨g, off + i * 6 + 5, none⟩ = some (.int .u32 v) ∧ w'.cell? ⟨o, 0, none⟩ = some (.int .i64 k') ∧ w'.cell? ⟨o, 1, none⟩ = some (.int .u64 cy') ∧ w'.cell? ⟨o, 2, none⟩ = some (.int .u64 ct') ∧ w'.cell? ⟨o, 3, none⟩ = some (.int .u32 a') ∧ w'.cell? ⟨o, 4, none⟩ = some (.int .u32 b') ∧ w'.cell? ⟨o, 5, none⟩ = some (.int .u32 v')) (first | exact H | exact H2) (first | (go_at_call 60; (refine (hst _).mono ?_); rintro x w9 ⟨s, f, rfl, hsf, hk9⟩; have H2 : w9.cell? ⟨g, off + i * 6, none⟩ = some (.int .i64 k) ∧ w9.cell? ⟨g, off + i * 6 + 1, none⟩ = some (.int .u64 cy) ∧ w9.cell? ⟨g, off + i * 6 + 2, none⟩ = some (.int .u64 ct) ∧ w9.cell? ⟨g, off + i * 6 + 3, none⟩ = some (.int .u32 a) ∧ w9.cell? ⟨g, off + i * 6 + 4, none⟩ = some (.int .u32 b) ∧ w9.cell? ⟨g, off + i * 6 + 5, none⟩ = some (.int .u32 v) ∧ w9.cell? ⟨o, 0, none⟩ = some (.int .i64 k') ∧ w9.cell? ⟨o, 1, none⟩ = some (.int .u64 cy') ∧ w9.cell? ⟨o, 2, none⟩ = some (.int .u64 ct') ∧ w9.cell? ⟨o, 3, none⟩ = some (.int .u32 a') ∧ w9.cell? ⟨o, 4, none⟩ = some (.int .u32 b') ∧ w9.cell? ⟨o, 5, none⟩ = some (.int .u32 v') := twelve hk9 (by omega) hoz H))
          have hB9 : Below w.heap.size w w9 := hB4.trans ((bel_undrew hk9).mono hB4.size)
          clear hk9 H2 H hB4 hst
          obtain ⟨g9, off9, hgo, hg9, a0, a1, a2, a3, a4, a5⟩ := six hsl hB9 (Nat.le_refl _) hlt
          cases hgo
          rw [← HEE.out] at a0 a1 a2 a3 a4 a5
          simp only at a0 a1 a2 a3 a4 a5
          have HEV := Lib.hid hev
          clear hev
          cases hok : (Stp ⟨k', cy', ct', a', b', v'⟩ ⟨k, cy, ct, a, b, v⟩).2.2
          · have hR2 : prnE z (i + 1) = 5 := by rw [prnE, if_pos HE.out, HEV.out, hok]; rfl
            have HR3 := Lib.hid (show prnE z len = 5 by rw [prnE_mono z (i := i + 1) (by rw [hR2]; decide) (by omega), hR2])
            clear hR2 hsf
            go_wp2_with fail
            go_ret2
            rw [HR3.out]
            refine ⟨?_, hB9⟩
            rw [show prnS z len = [] from by unfold prnS; rw [HR3.out]; rfl]
            rfl
          · obtain ⟨hs1, hf1⟩ := hsf hok
            have hy := stp_yes hok
            have h64 := HW.out.ct
            simp only at h64
            have hs64 : s < U64 := by rw [hs1]; unfold U64; omega
            have hf64 : f < U64 := by rw [hf1]; exact fold_lt _ (by omega) (by omega)
            have hby : prnC z (i + 1) = prnC z i ++ ([UInt8.ofNat k.toNat] ++ leb 10 s ++ leb 10 f ++ (if hasA k = true then leb 10 a else []) ++ (if hasB k = true then leb 10 b else []) ++ (if hasV k = true then leb 10 v else [])) := by
              rw [prnC, ← HEE.out, ← HPE.out, hs1, hf1]; rfl
            have hon := fun x => rone_any ⟨k, cy, ct, a, b, v⟩ HK.out HW.out s f hs64 hf64 x
            simp only [Ev.val] at hon
            have hR2 : prnE z (i + 1) = 0 := by rw [prnE, if_pos HE.out, HEV.out, hok]; rfl
            have HR2 := Lib.hid hR2
            have hl := prnC_len z (i + 1)
            clear hR2 hs1 hf1 hy h64 hs64 hf64 hok
            rw [hby, List.length_append] at hl
            generalize [UInt8.ofNat k.toNat] ++ leb 10 s ++ leb 10 f ++ (if hasA k = true then leb 10 a else []) ++ (if hasB k = true then leb 10 b else []) ++ (if hasV k = true then leb 10 v else []) = Y at hby hon hl
            have HBY := Lib.hid hby
            clear hby
            have hl2 : (prnC z i).length + Y.length ≤ 51 * 100001 := by omega
            clear hl
            go_wp2_with fail
            refine (hon _).mono ?_
            rintro x w10 ⟨rfl, hk⟩
            have hB10 := hB9.trans (hk.mono hB9.size)
            clear hk a0 a1 a2 a3 a4 a5 hon
            go_wp2_with fail
            go_roundw
            case rel => exact ⟨i + 1, by rw [HBY.out, str_cat], by go_num, by omega, HR2.out, hB10⟩
            case measure => simp [intOf]; omega
      · have hd : ((Ev.mk k cy ct a b v).chk != 0) = true := by simp [hc]
        have hR : evErr (z (i - 1)) (z i) = 3 := by rw [← HEE.out]; unfold evErr; rw [if_neg hc]
        have hR2 : prnE z (i + 1) = 3 := by rw [prnE, if_pos HE.out, hR]
        have HR3 := Lib.hid (show prnE z len = 3 by rw [prnE_mono z (i := i + 1) (by rw [hR2]; decide) (by omega), hR2])
        clear hc hR hR2
        go_wp2_with fail
        go_ret2
        rw [HR3.out]
        refine ⟨?_, hB3⟩
        rw [show prnS z len = [] from by unfold prnS; rw [HR3.out]; rfl]
        rfl
    · obtain rfl : i = len := by omega
      go_wp2_with fail
      go_ret2
      rw [HE.out]
      refine ⟨?_, hB⟩
      rw [show prnS z i = prnC z i from by unfold prnS; rw [HE.out]; rfl]
      rfl
end Go.Proofs.Ytbfipgeoecbpaaa
