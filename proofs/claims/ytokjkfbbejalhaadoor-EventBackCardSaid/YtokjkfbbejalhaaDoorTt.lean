/- Contract of event.Text. Conditions: the library's variables' data. -/
import Derived.Test.YtokjkfbbejalhaaDoorTk
import Derived.Deep.DeepCutAuto
namespace Go.Proofs.YtokjkfbbejalhaaDoor
open Go Go.RowKit
set_option linter.unusedVariables false
set_option linter.unusedSimpArgs false
set_option maxRecDepth 20000
theorem bel_next {a b c : World} (h : Below a.heap.size a b) (k : Below b.heap.size b c) : Below a.heap.size a c := h.trans (k.mono h.size)
/-- A number that strconv takes. -/
def FOk (u : Nat) : Prop := u < 18446744073709551616
/-- Its digits. -/
def DB (u : Nat) : ByteArray := ⟨(Lib.decDigits u).toArray⟩
theorem DB_size (u : Nat) (h : FOk u) : (DB u).size ≤ 20 := by
  unfold FOk at h
  show (Lib.decDigits u).toArray.size ≤ 20
  rw [List.size_toArray, Lib.decDigits_length]
  by_cases h1 : 1 ≤ u
  · have := Lib.numDigits_eq u h1 h
    split at this <;> omega
  · obtain rfl : u = 0 := by omega
    rw [Lib.nDigits_small (by decide)]
    decide
theorem fdb_any (u : Nat) (W : World) (h : FOk u) (g : Gl W) : Calls Tryd.prog 28 #[.int .u64 u, .int .i64 10] W fun e w' => e = .returned (.string (DB u)) ∧ Below W.heap.size W w' := fmt_any u h W g
theorem nm_size : ∀ k : Nat, k ≤ 24 → (nm k).size ≤ 10 := by decide +kernel
def TextPost (e : Ev) (w : World) (x : Ending) (w' : World) : Prop := x = .returned (.tuple #[.string ⟨(if e.chk = 0 then txt e else []).toArray⟩, .int .i64 e.chk]) ∧ Below w.heap.size w w'
/-- A line's first i numbers. -/
def txtN (e : Ev) (i : Nat) : List UInt8 := Lib.decDigits e.ct ++ 32 :: (Lib.decDigits e.cy ++ 32 :: ((nm e.k).data.toList ++ ((if 0 < i then ap (hasA e.k) e.a else []) ++ ((if 1 < i then ap (hasB e.k) e.b else []) ++ (if 2 < i then ap (hasV e.k) e.v else [])))))
theorem txtN3 (e : Ev) : txtN e 3 = txt e := rfl
/-- What round i does. -/
theorem txt_rnd (k : Int) (cy ct a b v : Nat) (ha : a < 4294967296) (hb : b < 4294967296) (hv : v < 4294967296) : ∀ i : Nat, i < 3 → ∃ n s : Nat, FOk n ∧ n < 4294967296 ∧
    (∀ x : World, (Instr.index 55 (.agg #[.int .u32 a, .int .u32 b, .int .u32 v]) (.int .i64 i)).run Tryd.prog x = .ok (.int .u32 n) x) ∧
    (∀ (x : World) (p : Nat), (x.cell? ⟨p, 0, none⟩ = some (.int .i64 (sh k).1) ∧ x.cell? ⟨p, 1, none⟩ = some (.int .i64 (sh k).2.1) ∧ x.cell? ⟨p, 2, none⟩ = some (.int .i64 (sh k).2.2)) → x.cell? ⟨p, i, none⟩ = some (.int .i64 s)) ∧
    txtN ⟨k, cy, ct, a, b, v⟩ (i + 1) = txtN ⟨k, cy, ct, a, b, v⟩ i ++ (if s = 0 then [] else 32 :: Lib.decDigits n)
  | 0, _ => ⟨a, (sh k).1, by unfold FOk; omega, ha, fun _ => by kernel_rfl, fun x p h => h.1, by by_cases h : (sh k).1 = 0 <;> simp [txtN, ap, hasA, h]⟩
  | 1, _ => ⟨b, (sh k).2.1, by unfold FOk; omega, hb, fun _ => by kernel_rfl, fun x p h => h.2.1, by by_cases h : (sh k).2.1 = 0 <;> simp [txtN, ap, hasB, h]⟩
  | 2, _ => ⟨v, (sh k).2.2, by unfold FOk; omega, hv, fun _ => by kernel_rfl, fun x p h => h.2.2, by by_cases h : (sh k).2.2 = 0 <;> simp [txtN, ap, hasV, h]⟩
  | n + 3, h => absurd h (by omega)
set_option maxHeartbeats 2000000 in
theorem text_any (e : Ev) (he : e.Wf) (w : World) (g : Gl w) : Calls Tryd.prog 15 #[e.val] w (TextPost e w) := by
  have hck := fun x => check_any e x
  have hEw := he
  obtain ⟨k, cy, ct, a, b, v⟩ := e
  simp only [Ev.val] at hck ⊢
  have HE := Lib.hid hEw
  clear hEw he
  have hO : (w.alloc (.cells #[.int .i64 k, .int .u64 cy, .int .u64 ct, .int .u32 a, .int .u32 b, .int .u32 v] 25)).heap[w.heap.size]? = some (.cells (Ev.cells ⟨k, cy, ct, a, b, v⟩).toArray 25 (0, 0)) := heap_alloc_new w _
  have hB1 := (Below.refl w.heap.size w).alloc (Nat.le_refl _) (.cells #[.int .i64 k, .int .u64 cy, .int .u64 ct, .int .u32 a, .int .u32 b, .int .u32 v] 25)
  go_enter Tryd.func15, Tryd.ntmps15
  go_wp2_with fail
  generalize w.alloc (.cells #[.int .i64 k, .int .u64 cy, .int .u64 ct, .int .u32 a, .int .u32 b, .int .u32 v] 25) = W at hO hB1 ⊢
  obtain ⟨o, ho⟩ : ∃ o, o = w.heap.size := ⟨_, rfl⟩
  rw [← ho] at hO ⊢
  have hob : w.heap.size ≤ o := by omega
  clear ho
  refine (hck _).mono ?_
  rintro x w1 ⟨rfl, hk⟩
  have hB2 := hB1.trans (hk.mono hB1.size)
  have hO2 := (hk.block _ (blk_lt hO)).trans hO
  clear hk hO hB1 hck
  by_cases hc : (Ev.mk k cy ct a b v).chk = 0
  · rw [hc]
    obtain ⟨hK, _⟩ := chk_ok hc
    have hK : 1 ≤ k ∧ k ≤ 24 := by simpa [isK] using hK
    obtain ⟨c0, c1, c2, c3, c4, c5⟩ := ev_cells hO2
    simp only at c0 c1 c2 c3 c4 c5
    have f1 : FOk ct := HE.out.ct
    have f2 : FOk cy := HE.out.cy
    have z1 := DB_size ct f1
    have z2 := DB_size cy f2
    have z3 : (nm k).size ≤ 10 := by
      have := nm_size k.toNat (by omega)
      rw [show ((k.toNat : Nat) : Int) = k by omega] at this
      exact this
    have HC := Lib.hid hc
    clear hc
    have fX : ∀ {w' : World}, Below w1.heap.size w1 w' → w'.cell? ⟨o, 0, none⟩ = some (.int .i64 k) ∧ w'.cell? ⟨o, 1, none⟩ = some (.int .u64 cy) ∧ w'.cell? ⟨o, 2, none⟩ = some (.int .u64 ct) := fun h => by
      have q := ev_cells ((h.block _ (blk_lt hO2)).trans hO2)
      exact ⟨q.1, q.2.1, q.2.2.1⟩
    have gX : ∀ {w' : World}, Below w1.heap.size w1 w' → Gl w' := fun h => (g.on hB2).on h
    have dX := fun (u : Nat) (W' : World) (h : FOk u) (k : Below w1.heap.size w1 W') => fdb_any u W' h (gX k)
    have nX := fun (W' : World) => name_any k W'
    have H := fX (Below.refl _ w1).drew
    have kk := (Below.refl w1.heap.size w1).drew
    clear c0 c1 c2 c3 c4 c5
    have y1 : ¬ 9223372036854775807 < (DB ct).size + 1 := by omega
    have y2 : ¬ 9223372036854775807 < (DB ct).size + 1 + (DB cy).size := by omega
    have y3 : ¬ 9223372036854775807 < (DB ct).size + 1 + (DB cy).size + 1 := by omega
    have y4 : ¬ 9223372036854775807 < (DB ct).size + 1 + (DB cy).size + 1 + (nm k).size := by omega
    go_upto_region 4 with fail
    go_cut [5] (fun u wx => u = .string (DB ct ++ ⟨#[32]⟩ ++ DB cy ++ ⟨#[32]⟩ ++ nm k) ∧ Below w1.heap.size w1 wx)
    case first =>
      go_region_held3 (fun w' => w'.cell? ⟨o, 0, none⟩ = some (.int .i64 k) ∧ w'.cell? ⟨o, 1, none⟩ = some (.int .u64 cy) ∧ w'.cell? ⟨o, 2, none⟩ = some (.int .u64 ct)) (first | exact H | assumption) (first | (go_at_call 28; (refine (dX _ _ ?_ ?_).mono ?_); assumption; assumption; rintro x wA ⟨rfl, hkA⟩; have hkWA := bel_next (show Below w1.heap.size w1 _ by assumption) hkA; have hRA := fX hkWA) | (go_at_call 13; (refine (nX _).mono ?_); rintro x wA ⟨rfl, hkA⟩; have hkWA := bel_next (show Below w1.heap.size w1 _ by assumption) hkA; have hRA := fX hkWA))
      all_goals (go_wp2_with fail; go_meet)
      all_goals exact ⟨rfl, by assumption⟩
    case rest =>
      obtain ⟨rfl, hkx⟩ := hcut
      have hB3 := hB2.trans (hkx.mono hB2.size)
      have hO3 := (hkx.block _ (blk_lt hO2)).trans hO2
      clear hO2 hB2 fX gX dX nX H kk y1 y2 y3 y4 hkx
      obtain ⟨c0, c1, c2, c3, c4, c5⟩ := ev_cells hO3
      simp only at c0 c1 c2 c3 c4 c5
      have hs := fun x => shape_any k x
      have HR := Lib.hid (txt_rnd k cy ct a b v HE.out.a HE.out.b HE.out.v)
      obtain ⟨S0, hS0⟩ : ∃ S0, S0 = DB ct ++ ⟨#[32]⟩ ++ DB cy ++ ⟨#[32]⟩ ++ nm k := ⟨_, rfl⟩
      rw [← hS0]
      have hS1 : S0.data.toList = txtN ⟨k, cy, ct, a, b, v⟩ 0 := by
        rw [hS0]
        unfold txtN DB
        simp
      have hS2 : S0.size ≤ 52 := by
        rw [hS0]
        simp only [ByteArray.size_append]
        have : (ByteArray.mk #[32]).size = 1 := rfl
        omega
      have HS1 := Lib.hid hS1
      clear hS1 hS0 z1 z2 z3
      rename_i wx _
      generalize sh k = tr at hs HR ⊢
      go_wp2_with fail
      refine (hs _).mono ?_
      rintro x w2 ⟨rfl, hk2⟩
      have hB4 := hB3.trans (hk2.mono hB3.size)
      have hO4 := (hk2.block _ (blk_lt hO3)).trans hO3
      clear hO3 hB3 c0 c1 c2 c3 c4 c5 hk2 hs
      obtain ⟨c0, c1, c2, c3, c4, c5⟩ := ev_cells hO4
      simp only at c0 c1 c2 c3 c4 c5
      obtain ⟨t0, t1, t2⟩ := tr
      simp only at HR ⊢
      have hoz := blk_lt hO4
      have ba : a < 4294967296 := HE.out.a
      have bb : b < 4294967296 := HE.out.b
      have bv : v < 4294967296 := HE.out.v
      go_upto_block 0 with fail
      have hB5 := hB4.alloc hB4.size (.cells #[.int .i64 t0, .int .i64 t1, .int .i64 t2] 51)
      have hp := heap_alloc_new w2 (.cells #[.int .i64 t0, .int .i64 t1, .int .i64 t2] 51)
      generalize w2.alloc (.cells #[.int .i64 t0, .int .i64 t1, .int .i64 t2] 51) = w3 at hB5 hp ⊢
      obtain ⟨p, hpp⟩ : ∃ p, p = w2.heap.size := ⟨_, rfl⟩
      rw [← hpp] at hp ⊢
      have hwp : w.heap.size ≤ p := by have := hB4.size; omega
      clear hpp hB4 hO4 c0 c1 c2 c3 c4 c5 ba bb bv hoz
      go_wp2_with fail
      go_loopw [5, 37] (fun u x wr => ∃ (i : Nat) (S : ByteArray), x = .int .i64 i ∧ i ≤ 3 ∧ u = .string S ∧ Hid (S.data.toList = txtN ⟨k, cy, ct, a, b, v⟩ i) ∧ S.size ≤ 52 + 21 * i ∧ Below w.heap.size w wr ∧ wr.heap[p]? = some (.cells #[.int .i64 t0, .int .i64 t1, .int .i64 t2] 51 (0, 0))) (fun _ x _ => 3 - (intOf x).toNat)
      case atStart => exact ⟨0, S0, rfl, by omega, rfl, HS1, by omega, hB5, hp⟩
      case round =>
        obtain ⟨i, S, rfl, hi, rfl, HS, hz, hB, hp2⟩ := hrel
        clear hB5 hp HS1 hS2
        by_cases hlt : i < 3
        · obtain ⟨n, s, fn, bn, hix, hcl, htx⟩ := HR.out i hlt
          have hix := hix wr
          have hcl := hcl wr p ⟨by rw [cell_blk hp2]; rfl, by rw [cell_blk hp2]; rfl, by rw [cell_blk hp2]; rfl⟩
          have HT := Lib.hid htx
          clear htx
          have h0i : (0 : Int) ≤ i := by omega
          have h3i : (i : Int) < 3 := by omega
          have zn := DB_size n fn
          by_cases hs0 : s = 0
          · have ds : ((s : Int) != 0) = false := by rw [hs0]; rfl
            have HT2 := Lib.hid (show txtN ⟨k, cy, ct, a, b, v⟩ (i + 1) = txtN ⟨k, cy, ct, a, b, v⟩ i by rw [HT.out, if_pos hs0, List.append_nil])
            clear hs0 HT
            go_wp2_with fail
            go_roundw
            case rel => exact ⟨i + 1, S, by go_num, by omega, rfl, Lib.hid (by rw [HS.out, HT2.out]), by omega, hB, hp2⟩
            case measure => simp [intOf]; omega
          · have ds : ((s : Int) != 0) = true := by rw [bne_iff_ne]; omega
            have HT2 := Lib.hid (show txtN ⟨k, cy, ct, a, b, v⟩ (i + 1) = txtN ⟨k, cy, ct, a, b, v⟩ i ++ 32 :: Lib.decDigits n by rw [HT.out, if_neg hs0])
            clear hs0 HT
            have y1 : ¬ 9223372036854775807 < 1 + (DB n).size := by omega
            have y2 : ¬ 9223372036854775807 < S.size + (1 + (DB n).size) := by omega
            have hfm := fdb_any n wr fn (g.on hB)
            go_wp2_with fail
            refine hfm.mono ?_
            rintro x wq ⟨rfl, hkq⟩
            have hB6 := bel_next hB hkq
            have hp3 := (hkq.block _ (blk_lt hp2)).trans hp2
            clear hB hp2 hkq hix hcl hfm
            go_wp2_with fail
            go_roundw
            case rel => exact ⟨i + 1, S ++ (⟨#[32]⟩ ++ DB n), by go_num, by omega, rfl, Lib.hid (by rw [ByteArray.data_append, Array.toList_append, HS.out, HT2.out]; unfold DB; simp), by simp only [ByteArray.size_append]; have : (ByteArray.mk #[32]).size = 1 := rfl; omega, hB6, hp3⟩
            case measure => simp [intOf]; omega
        · go_wp2_with fail
          obtain rfl : i = 3 := by omega
          go_ret2
          refine ⟨?_, hB⟩
          show Ending.returned (.tuple #[.string S, .int .i64 0]) = _
          rw [HC.out, if_pos rfl, ← txtN3, ← HS.out]
  · have HZ := Lib.hid (show (if (Ev.mk k cy ct a b v).chk = 0 then txt (Ev.mk k cy ct a b v) else []) = [] from if_neg hc)
    obtain ⟨c, hcc⟩ : ∃ c, c = (Ev.mk k cy ct a b v).chk := ⟨_, rfl⟩
    rw [← hcc] at hc ⊢
    have HC := Lib.hid hcc
    clear hcc
    have d : (c != 0) = true := by rw [bne_iff_ne]; exact hc
    clear hc
    go_wp2_with fail
    go_ret2
    refine ⟨?_, hB2⟩
    rw [HZ.out, ← HC.out]
    rfl
end Go.Proofs.YtokjkfbbejalhaaDoor
