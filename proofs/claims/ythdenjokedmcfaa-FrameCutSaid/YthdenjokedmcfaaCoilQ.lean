/- Contract of the reference of layer 6: One. No condition but those that it names. -/
import Derived.Test.YthdenjokedmcfaaCoilR
namespace Go.Proofs.Ythdenjokedmcfaa
open Go.RowKit
set_option maxRecDepth 20000
theorem run_str_one {P : Program} {src dst e : Nat} (hs : P.underlying src = some (.slice e)) (he : P.underlying e = some (.int .u8)) (hd : P.underlying dst = some .string) (w : World) (b : Nat) (u : UInt8) (hc : w.cell? ⟨b, 0, none⟩ = some (.int .u8 u.toNat)) :
    (convert src dst (.slice (some ⟨b, 0, none⟩) 1 1)).run P w = .ok (.string ⟨#[u]⟩) w := by
  rw [run_convert_bytes_string w src dst e (some ⟨b, 0, none⟩) 1 1 hs he hd]
  have hcells : ∀ j x, (bv [u])[j]? = some x → w.cell? ((⟨b, 0, none⟩ : Addr).add j) = some x := by
    intro j x hj
    match j, hj with
    | 0, hj => simp [bv] at hj; subst hj; simpa [Addr.add] using hc
    | j + 1, hj => simp [bv] at hj
  have hl := run_loadCells_list (P := P) w ⟨b, 0, none⟩ (bv [u]) hcells
  have hb : bv [u] = ([u].map fun b => (b.toNat : Int)).map (Value.int .u8) := by simp [bv]
  rw [hb, List.length_map, List.length_map] at hl
  refine (run_bytesToString (P := P) w ⟨b, 0, none⟩ 1 1 ([u].map fun b => (b.toNat : Int)) hl).trans ?_
  congr 2
  rw [fold_push]
  rfl
theorem str_cat (l m : List UInt8) : (⟨l.toArray⟩ : ByteArray) ++ ⟨m.toArray⟩ = ⟨(l ++ m).toArray⟩ := by
  apply ByteArray.ext
  simp
theorem str_cat3 (u : UInt8) (l m : List UInt8) : (⟨#[u]⟩ : ByteArray) ++ ⟨l.toArray⟩ ++ ⟨m.toArray⟩ = ⟨([u] ++ l ++ m).toArray⟩ := by
  rw [show (⟨#[u]⟩ : ByteArray) = ⟨[u].toArray⟩ from rfl, str_cat, str_cat]
/-- Where One stands: the event lies boxed in block g, what its kind has in block h. -/
structure OSt (w : World) (g h : Nat) (e : Ev) (xa xb xv : Bool) (w1 : World) : Prop where
  bel : Below w.heap.size w w1
  blk : w1.heap[g]? = some (.cells e.cells.toArray 85 (0, 0))
  has : w1.heap[h]? = some (.cells #[.bool xa, .bool xb, .bool xv] 140 (0, 0))
theorem OSt.below {w : World} {g h : Nat} {e : Ev} {xa xb xv : Bool} {w1 w2 : World} (s : OSt w g h e xa xb xv w1) (k : Below w1.heap.size w1 w2) : OSt w g h e xa xb xv w2 :=
  ⟨bel_start s.bel k, (k.block _ (blk_lt s.blk)).trans s.blk, (k.block _ (blk_lt s.has)).trans s.has⟩
theorem OSt.cells {w : World} {g h : Nat} {e : Ev} {xa xb xv : Bool} {w1 : World} (s : OSt w g h e xa xb xv w1) : w1.cell? ⟨h, 0, none⟩ = some (.bool xa) ∧ w1.cell? ⟨h, 1, none⟩ = some (.bool xb) ∧ w1.cell? ⟨h, 2, none⟩ = some (.bool xv) :=
  ⟨by rw [cell_blk s.has]; rfl, by rw [cell_blk s.has]; rfl, by rw [cell_blk s.has]; rfl⟩
theorem OSt.mk' {w w1 w2 : World} {g : Nat} {e : Ev} {xa xb xv : Bool} (hB : Below w.heap.size w w1) (hb : w1.heap[g]? = some (.cells e.cells.toArray 85 (0, 0))) (k : Below w1.heap.size w1 w2) :
    OSt w g w2.heap.size e xa xb xv (w2.alloc (.cells #[.bool xa, .bool xb, .bool xv] 140)) :=
  ⟨(bel_start hB k).alloc (bel_start hB k).size _, blk_alloc ((k.block _ (blk_lt hb)).trans hb) _, heap_alloc_new w2 _⟩
set_option maxHeartbeats 8000000 in
theorem rone_any (e : Ev) (hk : isK e.k = true) (he : e.Wf) (s f : Nat) (hs : s < U64) (hf : f < U64) (w : World) :
    Calls Try.prog 69 #[e.val, .int .u64 s, .int .u64 f] w fun x w' => x = .returned (.string ⟨([UInt8.ofNat e.k.toNat] ++ leb 10 s ++ leb 10 f ++ (if hasA e.k = true then leb 10 e.a else []) ++ (if hasB e.k = true then leb 10 e.b else []) ++ (if hasV e.k = true then leb 10 e.v else [])).toArray⟩) ∧ Below w.heap.size w w' := by
  obtain ⟨k, cy, ct, a, bb, v⟩ := e
  have hblk : (w.alloc (.cells #[.int .i64 k, .int .u64 cy, .int .u64 ct, .int .u32 a, .int .u32 bb, .int .u32 v] 85)).heap[w.heap.size]? = some (.cells (Ev.cells ⟨k, cy, ct, a, bb, v⟩).toArray 85 (0, 0)) := heap_alloc_new w _
  have hB0 := (Below.refl w.heap.size w).alloc (Nat.le_refl _) (.cells #[.int .i64 k, .int .u64 cy, .int .u64 ct, .int .u32 a, .int .u32 bb, .int .u32 v] 85)
  have hkb := k_byte hk
  simp only at hkb
  have l1 := leb_len_le 10 s
  have l2 := leb_len_le 10 f
  have l3 := leb_len_le 10 a
  have l4 := leb_len_le 10 bb
  have l5 := leb_len_le 10 v
  obtain ⟨u, hu⟩ : ∃ u : UInt8, u = UInt8.ofNat k.toNat := ⟨_, rfl⟩
  have a32 := he.a
  have b32 := he.b
  have v32 := he.v
  simp only at a32 b32 v32
  have A64 := Lib.hid (show a < U64 by unfold U64; omega)
  have B64 := Lib.hid (show bb < U64 by unfold U64; omega)
  have V64 := Lib.hid (show v < U64 by unfold U64; omega)
  have hp := fun (n : Nat) (hn : Hid (n < U64)) (x : World) => rprint_any n hn.out x
  have HS := Lib.hid hs
  have HF := Lib.hid hf
  have hh := fun x => rhas_any k x
  simp only
  generalize hasA k = xa at hh ⊢
  generalize hasB k = xb at hh ⊢
  generalize hasV k = xv at hh ⊢
  unfold Ev.val
  simp only
  have k0 : 1 ≤ k ∧ k ≤ 24 := by simpa [isK] using hk
  have k1 := k0.1
  have k2 := k0.2
  have hwk : IntKind.u8.wrap k = (u.toNat : Int) := by rw [hu, ← hkb, IntKind.wrap_u8]
  rw [← hu]
  have hcv := fun (x : World) (b : Nat) (hc : x.cell? ⟨b, 0, none⟩ = some (.int .u8 u.toNat)) => run_str_one (P := Try.prog) (src := 82) (dst := 9) ul_bytes (by kernel_rfl) ul_string x b u hc
  clear he hk hs hf hkb k0 hu
  go_enter Try.func69, Try.ntmps69
  go_upto_region 1 with fail
  generalize w.alloc (.cells #[.int .i64 k, .int .u64 cy, .int .u64 ct, .int .u32 a, .int .u32 bb, .int .u32 v] 85) = W at hblk hB0 ⊢
  have hgW := blk_lt hblk
  generalize hg : w.heap.size = g at hblk hgW ⊢
  go_cut [7] (fun s7 wx => s7 = .string ⟨([u] ++ leb 10 s ++ leb 10 f).toArray⟩ ∧ Below w.heap.size w wx ∧ wx.heap[g]? = some (.cells (Ev.cells ⟨k, cy, ct, a, bb, v⟩).toArray 85 (0, 0)))
  case first =>
    have key : ∀ Z : World, Below W.heap.size W Z → Below w.heap.size w Z ∧ Z.heap[g]? = some (.cells (Ev.cells ⟨k, cy, ct, a, bb, v⟩).toArray 85 (0, 0)) := fun Z hZ => ⟨bel_start hB0 hZ, (hZ.block _ hgW).trans hblk⟩
    obtain ⟨c0, _⟩ := ev_cells hblk
    simp only at c0
    go_region_held (fun w' => w'.cell? ⟨g, 0, none⟩ = some (.int .i64 k)) (go_keep) (first | (go_at_call_of 92 (Value.int .u64 (s : Int)); (refine (hp s HS _).mono ?_); rintro x w1 ⟨rfl, hk1⟩; obtain ⟨hc1, _⟩ := bcell hk1; have hz1 := hk1.size; (try simp at hz1); (first | have hy1 := Nat.lt_of_succ_le hz1 | skip); have hkc1 : w1.cell? ⟨g, 0, none⟩ = some (.int .i64 k) := by (rw [hk1.cell (p := ⟨g, 0, none⟩) (by first | omega | (simp; omega))]; first | assumption | go_keep | simp [*])) | (go_at_call_of 92 (Value.int .u64 (f : Int)); (refine (hp f HF _).mono ?_); rintro x w2 ⟨rfl, hk2⟩; obtain ⟨hc2, _⟩ := bcell hk2; have hz2 := hk2.size; (try simp at hz2); (first | have hy2 := Nat.lt_of_succ_le hz2 | skip); have hkc2 : w2.cell? ⟨g, 0, none⟩ = some (.int .i64 k) := by (rw [hk2.cell (p := ⟨g, 0, none⟩) (by first | omega | (simp; omega))]; first | assumption | go_keep | simp [*])))
    all_goals (go_wp2_with fail; go_meet; refine ⟨by rw [str_cat3], key _ ?_⟩)
    all_goals (repeat (first | exact Below.refl _ _ | refine Below.drew ?_ | refine Below.trans ?_ (Below.mono hk2 ?_) | refine Below.trans ?_ (Below.mono hk1 ?_) | refine Below.alloc ?_ ?_ _))
    all_goals first | omega | (simp <;> omega)
  case rest =>
    obtain ⟨rfl, hcut⟩ := hcut
    clear hblk hgW hB0 hg hcv hwk
    generalize hL4 : [u] ++ leb 10 s ++ leb 10 f = L4
    have hl4 : L4.length ≤ 21 := by rw [← hL4]; simp; omega
    have HL4 := Lib.hid hL4
    clear hL4
    obtain ⟨hB1, hblk1⟩ := hcut
    obtain ⟨c0, c1, c2, c3, c4, c5⟩ := ev_cells hblk1
    simp only at c0 c1 c2 c3 c4 c5
    go_wp2_with fail
    refine (hh _).mono ?_
    rintro x w2 ⟨rfl, hk⟩
    have st2 : OSt w g w2.heap.size ⟨k, cy, ct, a, bb, v⟩ xa xb xv (w2.alloc (.cells #[.bool xa, .bool xb, .bool xv] 140)) := OSt.mk' hB1 hblk1 hk
    have hblk2 := (hk.block _ (blk_lt hblk1)).trans hblk1
    have hg2 := blk_lt hblk2
    clear hk hB1 hblk1 c0 c1 c2 c3 c4 c5 hh
    obtain ⟨c0, c1, c2, c3, c4, c5⟩ := ev_cells hblk2
    simp only at c0 c1 c2 c3 c4 c5
    clear hblk2
    cases xa <;> cases xb <;> cases xv
    · go_wp2_with fail
      go_ret
      refine ⟨?_, st2.bel⟩
      rw [← HL4.out]
      first | rfl | (simp only [if_true, Bool.false_eq_true, if_false, List.append_nil, str_cat]; done) | (simp [str_cat]; done)
    · go_wp2_with fail
      refine (hp v V64 _).mono ?_
      rintro x w3 ⟨rfl, hk⟩
      have st3 := st2.below hk
      clear hk st2 c0 c1 c2 c3 c4 c5
      obtain ⟨c0, c1, c2, c3, c4, c5⟩ := ev_cells st3.blk
      obtain ⟨d0, d1, d2⟩ := st3.cells
      simp only at c0 c1 c2 c3 c4 c5
      go_wp2_with fail
      go_ret
      refine ⟨?_, st3.bel⟩
      rw [← HL4.out]
      first | rfl | (simp only [if_true, Bool.false_eq_true, if_false, List.append_nil, str_cat]; done) | (simp [str_cat]; done)
    · go_wp2_with fail
      refine (hp bb B64 _).mono ?_
      rintro x w3 ⟨rfl, hk⟩
      have st3 := st2.below hk
      clear hk st2 c0 c1 c2 c3 c4 c5
      obtain ⟨c0, c1, c2, c3, c4, c5⟩ := ev_cells st3.blk
      obtain ⟨d0, d1, d2⟩ := st3.cells
      simp only at c0 c1 c2 c3 c4 c5
      go_wp2_with fail
      go_ret
      refine ⟨?_, st3.bel⟩
      rw [← HL4.out]
      first | rfl | (simp only [if_true, Bool.false_eq_true, if_false, List.append_nil, str_cat]; done) | (simp [str_cat]; done)
    · go_wp2_with fail
      refine (hp bb B64 _).mono ?_
      rintro x w3 ⟨rfl, hk⟩
      have st3 := st2.below hk
      clear hk st2 c0 c1 c2 c3 c4 c5
      obtain ⟨c0, c1, c2, c3, c4, c5⟩ := ev_cells st3.blk
      obtain ⟨d0, d1, d2⟩ := st3.cells
      simp only at c0 c1 c2 c3 c4 c5
      go_wp2_with fail
      refine (hp v V64 _).mono ?_
      rintro x w4 ⟨rfl, hk⟩
      have st4 := st3.below hk
      clear hk st3 c0 c1 c2 c3 c4 c5 d0 d1 d2
      obtain ⟨c0, c1, c2, c3, c4, c5⟩ := ev_cells st4.blk
      obtain ⟨d0, d1, d2⟩ := st4.cells
      simp only at c0 c1 c2 c3 c4 c5
      go_wp2_with fail
      go_ret
      refine ⟨?_, st4.bel⟩
      rw [← HL4.out]
      first | rfl | (simp only [if_true, Bool.false_eq_true, if_false, List.append_nil, str_cat]; done) | (simp [str_cat]; done)
    · go_wp2_with fail
      refine (hp a A64 _).mono ?_
      rintro x w3 ⟨rfl, hk⟩
      have st3 := st2.below hk
      clear hk st2 c0 c1 c2 c3 c4 c5
      obtain ⟨c0, c1, c2, c3, c4, c5⟩ := ev_cells st3.blk
      obtain ⟨d0, d1, d2⟩ := st3.cells
      simp only at c0 c1 c2 c3 c4 c5
      go_wp2_with fail
      go_ret
      refine ⟨?_, st3.bel⟩
      rw [← HL4.out]
      first | rfl | (simp only [if_true, Bool.false_eq_true, if_false, List.append_nil, str_cat]; done) | (simp [str_cat]; done)
    · go_wp2_with fail
      refine (hp a A64 _).mono ?_
      rintro x w3 ⟨rfl, hk⟩
      have st3 := st2.below hk
      clear hk st2 c0 c1 c2 c3 c4 c5
      obtain ⟨c0, c1, c2, c3, c4, c5⟩ := ev_cells st3.blk
      obtain ⟨d0, d1, d2⟩ := st3.cells
      simp only at c0 c1 c2 c3 c4 c5
      go_wp2_with fail
      refine (hp v V64 _).mono ?_
      rintro x w4 ⟨rfl, hk⟩
      have st4 := st3.below hk
      clear hk st3 c0 c1 c2 c3 c4 c5 d0 d1 d2
      obtain ⟨c0, c1, c2, c3, c4, c5⟩ := ev_cells st4.blk
      obtain ⟨d0, d1, d2⟩ := st4.cells
      simp only at c0 c1 c2 c3 c4 c5
      go_wp2_with fail
      go_ret
      refine ⟨?_, st4.bel⟩
      rw [← HL4.out]
      first | rfl | (simp only [if_true, Bool.false_eq_true, if_false, List.append_nil, str_cat]; done) | (simp [str_cat]; done)
    · go_wp2_with fail
      refine (hp a A64 _).mono ?_
      rintro x w3 ⟨rfl, hk⟩
      have st3 := st2.below hk
      clear hk st2 c0 c1 c2 c3 c4 c5
      obtain ⟨c0, c1, c2, c3, c4, c5⟩ := ev_cells st3.blk
      obtain ⟨d0, d1, d2⟩ := st3.cells
      simp only at c0 c1 c2 c3 c4 c5
      go_wp2_with fail
      refine (hp bb B64 _).mono ?_
      rintro x w4 ⟨rfl, hk⟩
      have st4 := st3.below hk
      clear hk st3 c0 c1 c2 c3 c4 c5 d0 d1 d2
      obtain ⟨c0, c1, c2, c3, c4, c5⟩ := ev_cells st4.blk
      obtain ⟨d0, d1, d2⟩ := st4.cells
      simp only at c0 c1 c2 c3 c4 c5
      go_wp2_with fail
      go_ret
      refine ⟨?_, st4.bel⟩
      rw [← HL4.out]
      first | rfl | (simp only [if_true, Bool.false_eq_true, if_false, List.append_nil, str_cat]; done) | (simp [str_cat]; done)
    · go_wp2_with fail
      refine (hp a A64 _).mono ?_
      rintro x w3 ⟨rfl, hk⟩
      have st3 := st2.below hk
      clear hk st2 c0 c1 c2 c3 c4 c5
      obtain ⟨c0, c1, c2, c3, c4, c5⟩ := ev_cells st3.blk
      obtain ⟨d0, d1, d2⟩ := st3.cells
      simp only at c0 c1 c2 c3 c4 c5
      go_wp2_with fail
      refine (hp bb B64 _).mono ?_
      rintro x w4 ⟨rfl, hk⟩
      have st4 := st3.below hk
      clear hk st3 c0 c1 c2 c3 c4 c5 d0 d1 d2
      obtain ⟨c0, c1, c2, c3, c4, c5⟩ := ev_cells st4.blk
      obtain ⟨d0, d1, d2⟩ := st4.cells
      simp only at c0 c1 c2 c3 c4 c5
      go_wp2_with fail
      refine (hp v V64 _).mono ?_
      rintro x w5 ⟨rfl, hk⟩
      have st5 := st4.below hk
      clear hk st4 c0 c1 c2 c3 c4 c5 d0 d1 d2
      obtain ⟨c0, c1, c2, c3, c4, c5⟩ := ev_cells st5.blk
      obtain ⟨d0, d1, d2⟩ := st5.cells
      simp only at c0 c1 c2 c3 c4 c5
      go_wp2_with fail
      go_ret
      refine ⟨?_, st5.bel⟩
      rw [← HL4.out]
      first | rfl | (simp only [if_true, Bool.false_eq_true, if_false, List.append_nil, str_cat]; done) | (simp [str_cat]; done)
end Go.Proofs.Ythdenjokedmcfaa
