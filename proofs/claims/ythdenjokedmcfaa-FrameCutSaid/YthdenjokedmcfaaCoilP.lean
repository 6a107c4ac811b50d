/- Contracts of package coil: put, Size. No condition but those that each names. -/
import Derived.Test.YthdenjokedmcfaaCoilA
namespace Go.Proofs.Ythdenjokedmcfaa
open Go.RowKit
set_option maxRecDepth 20000
theorem IsWr.lt {w : World} {b : Nat} {R : Nat → Prop} {l : List UInt8} (h : IsWr w b R l) : IsWr w b (fun k => R k ∧ k < w.heap.size) l := by
  obtain ⟨v, h1, h2, h3⟩ := h
  exact ⟨v, h1, h2, fun k hk => ⟨⟨(h3 k hk).1, (h3 k hk).2.2⟩, (h3 k hk).2⟩⟩
theorem IsWr.blt {w : World} {b : Nat} {R : Nat → Prop} {l : List UInt8} (h : IsWr w b R l) : b < w.heap.size := by
  obtain ⟨v, h1, _⟩ := h
  exact blk_lt h1
/-- A writer's bytes while an event lies boxed in block g of its own. -/
structure PSt (W : World) (b g : Nat) (R : Nat → Prop) (e : Ev) (l : List UInt8) (w1 : World) : Prop where
  p : WrPost W b R l w1
  blk : w1.heap[g]? = some (.cells e.cells.toArray 85 (0, 0))
  gW : g < W.heap.size
  hR : ∀ k, R k → k < g
  hb : b < g
theorem PSt.put {W : World} {b g : Nat} {R : Nat → Prop} {e : Ev} {l l2 : List UInt8} {w1 w2 : World} (h : PSt W b g R e l w1)
    (k : WrPost w1 b (fun i => R i ∨ W.heap.size ≤ i) l2 w2) : PSt W b g R e l2 w2 :=
  ⟨h.p.trans k, k.2.keeps h.blk (fun hs => by
    rcases hs with hs | hs | hs
    · have := h.hb; omega
    · exact absurd (h.hR _ hs) (by omega)
    · have := h.gW; omega), h.gW, h.hR, h.hb⟩
theorem PSt.below {W : World} {b g : Nat} {R : Nat → Prop} {e : Ev} {l : List UInt8} {w1 w2 : World} (h : PSt W b g R e l w1) (k : Below w1.heap.size w1 w2) : PSt W b g R e l w2 :=
  ⟨⟨h.p.1.kept k, h.p.2.trans (Only.of_below k (fun _ => False)) (fun _ _ x => x.elim)⟩, (k.block _ (blk_lt h.blk)).trans h.blk, h.gW, h.hR, h.hb⟩
theorem wr_out {w : World} {o : Obj} {b : Nat} {R R' : Nat → Prop} {l : List UInt8} {w1 : World} (h : WrPost (w.alloc o) b R l w1) (hR : ∀ k, R k → R' k) : WrPost w b R' l w1 :=
  ⟨h.1.mono fun k hk => hk.elim (fun x => .inl (hR k x)) (fun x => .inr (by simp at x; omega)), ((Only.refl (fun i => i = b ∨ R' i) w).alloc _).trans h.2 fun i _ hs => hs.elim .inl (fun x => .inr (hR i x))⟩
theorem wr_eq {w w1 : World} {b : Nat} {R : Nat → Prop} {l l' : List UInt8} (h : WrPost w b R l w1) (e : l = l') : WrPost w b R l' w1 := e ▸ h
theorem k_byte {k : Int} (h : isK k = true) : k % 256 = ((UInt8.ofNat k.toNat).toNat : Int) := by
  have : 1 ≤ k ∧ k ≤ 24 := by simpa [isK] using h
  simp
  omega
set_option maxHeartbeats 4000000 in
theorem cput_any {w : World} {b : Nat} {R : Nat → Prop} {l : List UInt8} (h : IsWr w b R l) (e : Ev) (hk : isK e.k = true) (he : e.Wf) (s : Nat) (hs : s < U64) (d : Int) (d0 : -9223372036854775808 ≤ d) (d1 : d ≤ 9223372036854775807) (hlen : l.length + 60 ≤ 140737488355328) :
    Calls Try.prog 73 #[.pointer (some ⟨b, 0, none⟩), e.val, .int .u64 s, .int .i64 d] w fun x w' => x = .returned (.tuple #[]) ∧ WrPost w b R (l ++ one e s d) w' := by
  have hlt := h.lt
  have hbl := h.blt
  obtain ⟨k, cy, ct, a, bb, v⟩ := e
  have hW : IsWr (w.alloc (.cells #[.int .i64 k, .int .u64 cy, .int .u64 ct, .int .u32 a, .int .u32 bb, .int .u32 v] 85)) b (fun k => R k ∧ k < w.heap.size) l := hlt.alloc _
  have hblk : (w.alloc (.cells #[.int .i64 k, .int .u64 cy, .int .u64 ct, .int .u32 a, .int .u32 bb, .int .u32 v] 85)).heap[w.heap.size]? = some (.cells (Ev.cells ⟨k, cy, ct, a, bb, v⟩).toArray 85 (0, 0)) := heap_alloc_new w _
  have hout : ∀ (L : List UInt8) (w1 : World), WrPost (w.alloc (.cells #[.int .i64 k, .int .u64 cy, .int .u64 ct, .int .u32 a, .int .u32 bb, .int .u32 v] 85)) b (fun k => R k ∧ k < w.heap.size) L w1 → WrPost w b R L w1 := fun L w1 hx => wr_out hx fun i hi => hi.1
  have hkb := k_byte hk
  simp only at hkb
  have a64 : a < U64 := by have := he.a; simp only at this; unfold U64; omega
  have b64 : bb < U64 := by have := he.b; simp only at this; unfold U64; omega
  have v64 : v < U64 := by have := he.v; simp only at this; unfold U64; omega
  have a32 := he.a
  have b32 := he.b
  have v32 := he.v
  simp only at a32 b32 v32
  have A64 := Lib.hid a64
  have B64 := Lib.hid b64
  have V64 := Lib.hid v64
  have HS := Lib.hid hs
  have D0 := Lib.hid (And.intro d0 d1)
  have HKB := Lib.hid hkb
  have hf := fun x => fields_any k x
  have l1 := leb_len_le 10 s
  have l2 := leb_len_le 10 (foldV d)
  have l3 := leb_len_le 10 a
  have l4 := leb_len_le 10 bb
  unfold one
  simp only
  generalize hasA k = xa at hf ⊢
  generalize hasB k = xb at hf ⊢
  generalize hasV k = xv at hf ⊢
  unfold Ev.val
  simp only
  clear he hk hs d0 d1 hkb a64 b64 v64 h hlt
  go_enter Try.func73, Try.ntmps73
  go_wp2_with fail
  have hsz : (w.alloc (.cells #[.int .i64 k, .int .u64 cy, .int .u64 ct, .int .u32 a, .int .u32 bb, .int .u32 v] 85)).heap.size = w.heap.size + 1 := by simp
  rw [← hsz]
  generalize w.alloc (.cells #[.int .i64 k, .int .u64 cy, .int .u64 ct, .int .u32 a, .int .u32 bb, .int .u32 v] 85) = W at hW hsz hblk hout ⊢
  have hstart : PSt W b w.heap.size (fun k => R k ∧ k < w.heap.size) ⟨k, cy, ct, a, bb, v⟩ l W := ⟨WrPost.start hW, hblk, by omega, fun i hi => hi.2, hbl⟩
  have HO := Lib.hid hout
  clear hsz hblk hout
  generalize w.heap.size = g at hW hstart hbl HO ⊢
  refine (put_one hW _ (UInt8.ofNat k.toNat) ?hx (by omega)).mono ?_
  case hx => first | exact HKB.out | (have := HKB.out; omega)
  rintro e w1 ⟨rfl, hw⟩
  have st1 : PSt W b g (fun k => R k ∧ k < g) ⟨k, cy, ct, a, bb, v⟩ (l ++ [UInt8.ofNat k.toNat]) w1 := hstart.put ⟨hw.1.mono fun i hi => hi.elim (fun x => .inl (.inl x)) (fun x => .inl (.inr x)), hw.2.mono fun i _ hs => hs.elim .inl (fun x => .inr (.inl x))⟩
  clear hw hstart hW
  obtain ⟨c0, c1, c2, c3, c4, c5⟩ := ev_cells st1.blk
  simp only at c0 c1 c2 c3 c4 c5
  go_wp2_with fail
  refine (lput_any st1.p.1 s HS.out (by simp; omega)).mono ?_
  rintro e w2 ⟨rfl, hw⟩
  have st2 := st1.put hw
  clear hw st1 c0 c1 c2 c3 c4 c5
  go_wp2_with fail
  refine (lputInt_any st2.p.1 d D0.out.1 D0.out.2 (by simp; omega)).mono ?_
  rintro e w3 ⟨rfl, hw⟩
  have st3 := st2.put hw
  clear hw st2
  obtain ⟨c0, c1, c2, c3, c4, c5⟩ := ev_cells st3.blk
  simp only at c0 c1 c2 c3 c4 c5
  go_wp2_with fail
  refine (hf _).mono ?_
  rintro e w4 ⟨rfl, hw⟩
  have st4 := st3.below hw
  clear hw st3 c0 c1 c2 c3 c4 c5 hf
  generalize hL4 : l ++ [UInt8.ofNat k.toNat] ++ leb 10 s ++ leb 10 (foldV d) = L4 at st4
  have hl4 : L4.length ≤ l.length + 21 := by rw [← hL4]; simp; omega
  have HL4 := Lib.hid hL4
  clear hL4
  obtain ⟨c0, c1, c2, c3, c4, c5⟩ := ev_cells st4.blk
  simp only at c0 c1 c2 c3 c4 c5
  cases xa <;> cases xb <;> cases xv
  · go_wp2_with fail
    go_end0
    refine ⟨rfl, ?_⟩
    refine wr_eq (HO.out _ _ st4.p) ?_
    rw [← HL4.out]
    simp
  · go_wp2_with fail
    refine (lput_any st4.p.1 v V64.out (by first | omega | (simp; omega))).mono ?_
    rintro e w5 ⟨rfl, hw⟩
    have st5 := st4.put hw
    clear hw st4 c0 c1 c2 c3 c4 c5
    obtain ⟨c0, c1, c2, c3, c4, c5⟩ := ev_cells st5.blk
    simp only at c0 c1 c2 c3 c4 c5
    go_wp2_with fail
    go_end0
    refine ⟨rfl, ?_⟩
    refine wr_eq (HO.out _ _ st5.p) ?_
    rw [← HL4.out]
    simp
  · go_wp2_with fail
    refine (lput_any st4.p.1 bb B64.out (by first | omega | (simp; omega))).mono ?_
    rintro e w5 ⟨rfl, hw⟩
    have st5 := st4.put hw
    clear hw st4 c0 c1 c2 c3 c4 c5
    obtain ⟨c0, c1, c2, c3, c4, c5⟩ := ev_cells st5.blk
    simp only at c0 c1 c2 c3 c4 c5
    go_wp2_with fail
    go_end0
    refine ⟨rfl, ?_⟩
    refine wr_eq (HO.out _ _ st5.p) ?_
    rw [← HL4.out]
    simp
  · go_wp2_with fail
    refine (lput_any st4.p.1 bb B64.out (by first | omega | (simp; omega))).mono ?_
    rintro e w5 ⟨rfl, hw⟩
    have st5 := st4.put hw
    clear hw st4 c0 c1 c2 c3 c4 c5
    obtain ⟨c0, c1, c2, c3, c4, c5⟩ := ev_cells st5.blk
    simp only at c0 c1 c2 c3 c4 c5
    go_wp2_with fail
    refine (lput_any st5.p.1 v V64.out (by first | omega | (simp; omega))).mono ?_
    rintro e w6 ⟨rfl, hw⟩
    have st6 := st5.put hw
    clear hw st5 c0 c1 c2 c3 c4 c5
    obtain ⟨c0, c1, c2, c3, c4, c5⟩ := ev_cells st6.blk
    simp only at c0 c1 c2 c3 c4 c5
    go_wp2_with fail
    go_end0
    refine ⟨rfl, ?_⟩
    refine wr_eq (HO.out _ _ st6.p) ?_
    rw [← HL4.out]
    simp
  · go_wp2_with fail
    refine (lput_any st4.p.1 a A64.out (by first | omega | (simp; omega))).mono ?_
    rintro e w5 ⟨rfl, hw⟩
    have st5 := st4.put hw
    clear hw st4 c0 c1 c2 c3 c4 c5
    obtain ⟨c0, c1, c2, c3, c4, c5⟩ := ev_cells st5.blk
    simp only at c0 c1 c2 c3 c4 c5
    go_wp2_with fail
    go_end0
    refine ⟨rfl, ?_⟩
    refine wr_eq (HO.out _ _ st5.p) ?_
    rw [← HL4.out]
    simp
  · go_wp2_with fail
    refine (lput_any st4.p.1 a A64.out (by first | omega | (simp; omega))).mono ?_
    rintro e w5 ⟨rfl, hw⟩
    have st5 := st4.put hw
    clear hw st4 c0 c1 c2 c3 c4 c5
    obtain ⟨c0, c1, c2, c3, c4, c5⟩ := ev_cells st5.blk
    simp only at c0 c1 c2 c3 c4 c5
    go_wp2_with fail
    refine (lput_any st5.p.1 v V64.out (by first | omega | (simp; omega))).mono ?_
    rintro e w6 ⟨rfl, hw⟩
    have st6 := st5.put hw
    clear hw st5 c0 c1 c2 c3 c4 c5
    obtain ⟨c0, c1, c2, c3, c4, c5⟩ := ev_cells st6.blk
    simp only at c0 c1 c2 c3 c4 c5
    go_wp2_with fail
    go_end0
    refine ⟨rfl, ?_⟩
    refine wr_eq (HO.out _ _ st6.p) ?_
    rw [← HL4.out]
    simp
  · go_wp2_with fail
    refine (lput_any st4.p.1 a A64.out (by first | omega | (simp; omega))).mono ?_
    rintro e w5 ⟨rfl, hw⟩
    have st5 := st4.put hw
    clear hw st4 c0 c1 c2 c3 c4 c5
    obtain ⟨c0, c1, c2, c3, c4, c5⟩ := ev_cells st5.blk
    simp only at c0 c1 c2 c3 c4 c5
    go_wp2_with fail
    refine (lput_any st5.p.1 bb B64.out (by first | omega | (simp; omega))).mono ?_
    rintro e w6 ⟨rfl, hw⟩
    have st6 := st5.put hw
    clear hw st5 c0 c1 c2 c3 c4 c5
    obtain ⟨c0, c1, c2, c3, c4, c5⟩ := ev_cells st6.blk
    simp only at c0 c1 c2 c3 c4 c5
    go_wp2_with fail
    go_end0
    refine ⟨rfl, ?_⟩
    refine wr_eq (HO.out _ _ st6.p) ?_
    rw [← HL4.out]
    simp
  · go_wp2_with fail
    refine (lput_any st4.p.1 a A64.out (by first | omega | (simp; omega))).mono ?_
    rintro e w5 ⟨rfl, hw⟩
    have st5 := st4.put hw
    clear hw st4 c0 c1 c2 c3 c4 c5
    obtain ⟨c0, c1, c2, c3, c4, c5⟩ := ev_cells st5.blk
    simp only at c0 c1 c2 c3 c4 c5
    go_wp2_with fail
    refine (lput_any st5.p.1 bb B64.out (by first | omega | (simp; omega))).mono ?_
    rintro e w6 ⟨rfl, hw⟩
    have st6 := st5.put hw
    clear hw st5 c0 c1 c2 c3 c4 c5
    obtain ⟨c0, c1, c2, c3, c4, c5⟩ := ev_cells st6.blk
    simp only at c0 c1 c2 c3 c4 c5
    go_wp2_with fail
    refine (lput_any st6.p.1 v V64.out (by first | omega | (simp; omega))).mono ?_
    rintro e w7 ⟨rfl, hw⟩
    have st7 := st6.put hw
    clear hw st6 c0 c1 c2 c3 c4 c5
    obtain ⟨c0, c1, c2, c3, c4, c5⟩ := ev_cells st7.blk
    simp only at c0 c1 c2 c3 c4 c5
    go_wp2_with fail
    go_end0
    refine ⟨rfl, ?_⟩
    refine wr_eq (HO.out _ _ st7.p) ?_
    rw [← HL4.out]
    simp
end Go.Proofs.Ythdenjokedmcfaa
