/- Contract of event.Parse. Conditions: the library's variables' data. -/
import Derived.Test.YtokjkfbbejalhaaDoorTs
import Derived.IntWalk
namespace Go.Proofs.YtokjkfbbejalhaaDoor
open Go Go.RowKit
set_option linter.unusedVariables false
set_option linter.unusedSimpArgs false
set_option maxRecDepth 20000
/-- A new event, all 0. -/
def Rz (w : World) (r : Nat) : Prop := w.heap[r]? = some (.cells #[.int .i64 0, .int .u64 0, .int .u64 0, .int .u32 0, .int .u32 0, .int .u32 0] 25 (0, 0))
theorem Rz.cells {w : World} {r : Nat} (h : Rz w r) : (w.cell? ⟨r, 0, none⟩ = some (.int .i64 0) ∧ w.cell? ⟨r, 1, none⟩ = some (.int .u64 0) ∧ w.cell? ⟨r, 2, none⟩ = some (.int .u64 0) ∧ w.cell? ⟨r, 3, none⟩ = some (.int .u32 0) ∧ w.cell? ⟨r, 4, none⟩ = some (.int .u32 0) ∧ w.cell? ⟨r, 5, none⟩ = some (.int .u32 0)) ∧ (w.frozen? ⟨r, 0, none⟩ = false ∧ w.frozen? ⟨r, 1, none⟩ = false ∧ w.frozen? ⟨r, 2, none⟩ = false ∧ w.frozen? ⟨r, 3, none⟩ = false ∧ w.frozen? ⟨r, 4, none⟩ = false ∧ w.frozen? ⟨r, 5, none⟩ = false) :=
  ⟨⟨by rw [cell_blk h]; rfl, by rw [cell_blk h]; rfl, by rw [cell_blk h]; rfl, by rw [cell_blk h]; rfl, by rw [cell_blk h]; rfl, by rw [cell_blk h]; rfl⟩, frozen_blk h 0, frozen_blk h 1, frozen_blk h 2, frozen_blk h 3, frozen_blk h 4, frozen_blk h 5⟩
theorem Rz.on {w w' : World} {r : Nat} (h : Rz w r) (k : Below w.heap.size w w') : Rz w' r := (k.block _ (blk_lt h)).trans h
theorem WsIn.on {w w' : World} {q : Nat} {W : List (List UInt8)} (h : WsIn w q W) (k : Below w.heap.size w w') : WsIn w' q W := by
  obtain ⟨cs, fz, a, b, c⟩ := h
  exact ⟨cs, fz, (k.block _ (blk_lt a)).trans a, b, c⟩
theorem WsIn.cell {w : World} {q : Nat} {W : List (List UInt8)} (h : WsIn w q W) {i : Nat} (hi : i < W.length) : w.cell? ⟨q, i, none⟩ = some (.string (wsB W i)) := by
  obtain ⟨cs, fz, a, b, c⟩ := h
  rw [cell_blk a]
  exact c i hi
def ParsePost (l : List UInt8) (w : World) (x : Ending) (w' : World) : Prop := x = .returned (.tuple #[(prs l).1.val, .int .i64 (prs l).2]) ∧ Below w.heap.size w w'
theorem prs_err {l : List UInt8} (h : prsE (wds l) = none) {w w' : World} (k : Below w.heap.size w w') : ParsePost l w (.returned (.tuple #[.agg #[.int .i64 0, .int .u64 0, .int .u64 0, .int .u32 0, .int .u32 0, .int .u32 0], .int .i64 3])) w' := by
  refine ⟨?_, k⟩
  unfold prs
  rw [h]
  rfl
theorem prs_ok {l : List UInt8} {e : Ev} (h : prs l = fin e) (hc : 0 = e.chk) {w w' : World} (k : Below w.heap.size w w') : ParsePost l w (.returned (.tuple #[e.val, .int .i64 0])) w' := by
  refine ⟨?_, k⟩
  rw [h]
  unfold fin
  rw [if_pos hc.symm]
theorem prs_no {l : List UInt8} {e : Ev} {ck : Int} (h : prs l = fin e) (hc : ck = e.chk) (h0 : ¬ ck = 0) {w w' : World} (k : Below w.heap.size w w') : ParsePost l w (.returned (.tuple #[.agg #[.int .i64 0, .int .u64 0, .int .u64 0, .int .u32 0, .int .u32 0, .int .u32 0], .int .i64 ck])) w' := by
  refine ⟨?_, k⟩
  rw [h]
  unfold fin
  rw [if_neg (by rw [← hc]; exact h0), hc]
  rfl
theorem number_w (W : List (List UInt8)) (i B : Nat) (hB : B = 32 ∨ B = 64) (b : Bool) (hb : (numP B (W.getD i [])).isSome = b) (hs : (wsB W i).size ≤ 100000) (w : World) (g : Gl w) :
    Calls Tryd.prog 31 #[.string (wsB W i), .int .i64 B] w fun e w' => ∃ n : Nat, e = .returned (.tuple #[.int .u64 n, .bool b]) ∧ Hid ((∀ u, numP B (W.getD i []) = some u → n = u) ∧ n < 18446744073709551616) ∧ Below w.heap.size w w' := by
  refine (number_any B hB (wsB W i) hs w g).mono ?_
  rintro e w' ⟨n, rfl, h1, h2, h3⟩
  have e1 : (wsB W i).data.toList = W.getD i [] := rfl
  rw [e1] at h1 ⊢
  rw [hb]
  exact ⟨n, rfl, Lib.hid ⟨h1, h2⟩, h3⟩
theorem prs_rnd (k : Int) : ∀ i : Nat, i < 3 → ∃ s : Nat, (∀ x : World, (Instr.index 51 (.agg #[.int .i64 (sh k).1, .int .i64 (sh k).2.1, .int .i64 (sh k).2.2]) (.int .i64 i)).run Tryd.prog x = .ok (.int .i64 s) x) ∧ hasN k i = (s != 0)
  | 0, _ => ⟨(sh k).1, fun _ => by kernel_rfl, rfl⟩
  | 1, _ => ⟨(sh k).2.1, fun _ => by kernel_rfl, rfl⟩
  | 2, _ => ⟨(sh k).2.2, fun _ => by kernel_rfl, rfl⟩
  | n + 3, h => absurd h (by omega)
theorem tkN_none {k : Int} {r : List (List UInt8)} {i : Nat} (h : tkN k r i = none) : ∀ j, tkN k r (i + j) = none
  | 0 => h
  | j + 1 => by
    show (tkN k r (i + j)).bind _ = none
    rw [tkN_none h j]
    rfl
theorem prsE_none {W : List (List UInt8)} (h : tkN (kd (wsB W 2)) (W.drop 3) 3 = none) : prsE W = none := by
  unfold prsE
  rw [show kd ⟨(W.getD 2 []).toArray⟩ = kd (wsB W 2) from rfl, h]
  split
  · rfl
  · split
    · rename_i q; cases q
    · rfl
theorem prsE_of {W : List (List UInt8)} {n : Nat} (hn : n = W.length) (h3 : ¬ n < 3) {u1 u2 K : Nat} (h1 : (numP 64 (W.getD 0 [])).isSome = true) (e1 : ∀ u, numP 64 (W.getD 0 []) = some u → u1 = u) (h2 : (numP 64 (W.getD 1 [])).isSome = true) (e2 : ∀ u, numP 64 (W.getD 1 []) = some u → u2 = u)
    (hK : K = kd (wsB W 2)) (hK0 : K ≠ 0) {f : Nat → Nat} {r : List (List UInt8)} (hf : tkN K (W.drop 3) 3 = some (f, r)) : prsE W = if r = [] then some ⟨K, u2, u1, f 0, f 1, f 2⟩ else none := by
  obtain ⟨v1, q1⟩ := Option.isSome_iff_exists.1 h1
  obtain ⟨v2, q2⟩ := Option.isSome_iff_exists.1 h2
  have e1 := e1 _ q1
  have e2 := e2 _ q2
  subst e1 e2
  unfold prsE
  rw [if_neg (by rw [← hn]; exact h3), show kd ⟨(W.getD 2 []).toArray⟩ = K from hK.symm, hf, q1, q2]
  show (if K = 0 ∨ r ≠ [] then none else _) = _
  by_cases hr : r = []
  · rw [if_neg (by simp [hr, hK0]), if_pos hr]
  · rw [if_pos (Or.inr hr), if_neg hr]
theorem drop_at {W : List (List UInt8)} {j : Nat} (h : j < W.length) : W.drop j = W.getD j [] :: W.drop (j + 1) := by
  rw [List.drop_eq_getElem_cons h, List.getD_eq_getElem?_getD, List.getElem?_eq_getElem h]
  rfl
theorem tkN_step {k : Int} {W : List (List UInt8)} {i c : Nat} {f : Nat → Nat} (h : tkN k (W.drop 3) i = some (f, W.drop (3 + c))) : tkN k (W.drop 3) (i + 1) = (tk (hasN k i) (W.drop (3 + c))).map fun n => (fun j => if j = i then n.1 else f j, n.2) := by
  show (tkN k (W.drop 3) i).bind _ = _
  rw [h]
  rfl
/-- The numbers in memory. -/
def Num3 (w : World) (p : Nat) (f : Nat → Nat) : Prop := w.heap[p]? = some (.cells #[.int .u32 (f 0), .int .u32 (f 1), .int .u32 (f 2)] 55 (0, 0))
theorem Num3.on {w w' : World} {p : Nat} {f : Nat → Nat} (h : Num3 w p f) (k : Below w.heap.size w w') : Num3 w' p f := (k.block _ (blk_lt h)).trans h
theorem Num3.set {w : World} {p : Nat} {f : Nat → Nat} (h : Num3 w p f) {i : Nat} (hi : i < 3) (n : Nat) : Num3 (w.setCell ⟨p, i, none⟩ (.int .u32 n)) p (fun j => if j = i then n else f j) := by
  have := blk_setCell (i := i) h (.int .u32 n)
  unfold Num3
  rw [this]
  match i, hi with
  | 0, _ => rfl
  | 1, _ => rfl
  | 2, _ => rfl
theorem Num3.cell {w : World} {p : Nat} {f : Nat → Nat} (h : Num3 w p f) {i : Nat} (hi : i < 3) : w.cell? ⟨p, i, none⟩ = some (.int .u32 (f i)) ∧ w.frozen? ⟨p, i, none⟩ = false := by
  refine ⟨?_, frozen_blk h i⟩
  rw [cell_blk h]
  match i, hi with
  | 0, _ => rfl
  | 1, _ => rfl
  | 2, _ => rfl
set_option maxHeartbeats 2000000 in
theorem parse_any (s : ByteArray) (hs : s.size ≤ 1000) (w : World) (g : Gl w) : Calls Tryd.prog 17 #[.string s] w (ParsePost s.data.toList w) := by
  have hz0 : Rz (w.alloc (.cells #[.int .i64 0, .int .u64 0, .int .u64 0, .int .u32 0, .int .u32 0, .int .u32 0] 25)) w.heap.size := heap_alloc_new w _
  have hB0 := (Below.refl w.heap.size w).alloc (Nat.le_refl _) (.cells #[.int .i64 0, .int .u64 0, .int .u64 0, .int .u32 0, .int .u32 0, .int .u32 0] 25)
  have hsz := wsB_size s.data.toList
  have hpos := wds_pos s.data.toList
  have hle := wds_le s.data.toList
  have hPE := @prs_err s.data.toList
  have hlen : s.data.toList.length ≤ 1000 := by simpa using hs
  have hsp := fun x gx => split_any s (by omega) x gx
  obtain ⟨W, hW⟩ : ∃ W, W = wds s.data.toList := ⟨_, rfl⟩
  rw [← hW] at hsz hpos hle hPE hsp
  have HW := Lib.hid hW
  have HPE := Lib.hid hPE
  clear hW hPE
  go_enter Tryd.func17, Tryd.ntmps17
  go_wp2_with fail
  generalize w.alloc (.cells #[.int .i64 0, .int .u64 0, .int .u64 0, .int .u32 0, .int .u32 0, .int .u32 0] 25) = w1 at hz0 hB0 ⊢
  obtain ⟨r, hr⟩ : ∃ r, r = w.heap.size := ⟨_, rfl⟩
  rw [← hr] at hz0 ⊢
  have hwr : w.heap.size ≤ r := by omega
  clear hr
  refine (hsp _ (g.on hB0)).mono ?_
  rintro x w2 ⟨rfl, hws, hk, hlt⟩
  have hz := hz0.on hk
  have hB := bel_next hB0 hk
  have hwq := hB0.size
  have hrq := blk_lt hz0
  obtain ⟨q, hq⟩ : ∃ q, q = w1.heap.size := ⟨_, rfl⟩
  rw [← hq] at hws hlt hwq hrq ⊢
  clear hz0 hB0 hk hq hsp
  obtain ⟨n, hn⟩ : ∃ n, n = W.length := ⟨_, rfl⟩
  rw [← hn] at hpos hle ⊢
  have HN := Lib.hid hn
  clear hn
  obtain ⟨⟨y0, y1, y2, y3, y4, y5⟩, f0, f1, f2, f3, f4, f5⟩ := hz.cells
  by_cases h3 : n < 3
  · have h3i : (n : Int) < 3 := by omega
    go_wp2_with fail
    refine bodyPost_ret (v := .tuple #[.agg #[.int .i64 0, .int .u64 0, .int .u64 0, .int .u32 0, .int .u32 0, .int .u32 0], .int .i64 3]) (by simp [results, Tryd.results17, go_sem, y0, y1, y2, y3, y4, y5]) rfl (HPE.out (by unfold prsE; rw [if_pos (by rw [← HN.out]; exact h3)]) ?_)
    exact ((((((hB.setCell hwr _).setCell hwr _).setCell hwr _).setCell hwr _).setCell hwr _).setCell hwr _)
  · have h3i : (3 : Int) ≤ n := by omega
    have hl0 : (0 : Int) < n := by omega
    have hl1 : (1 : Int) < n := by omega
    have hl2 : (2 : Int) < n := by omega
    have c0 := hws.cell (i := 0) (by rw [← HN.out]; omega)
    obtain ⟨b1, hb1⟩ : ∃ b, (numP 64 (W.getD 0 [])).isSome = b := ⟨_, rfl⟩
    obtain ⟨b2, hb2⟩ : ∃ b, (numP 64 (W.getD 1 [])).isSome = b := ⟨_, rfl⟩
    have m1 := fun x gx => number_w W 0 64 (Or.inr rfl) b1 hb1 (by have := hsz 0; omega) x gx
    have m2 := fun x gx => number_w W 1 64 (Or.inr rfl) b2 hb2 (by have := hsz 1; omega) x gx
    have m3 := fun x => kind_any (wsB W 2) x
    obtain ⟨K, hK⟩ : ∃ K, K = kd (wsB W 2) := ⟨_, rfl⟩
    rw [← hK] at m3
    have HK := Lib.hid hK
    have HB1 := Lib.hid hb1
    have HB2 := Lib.hid hb2
    clear hK hb1 hb2 y0 y1 y2 y3 y4 y5 f0 f1 f2 f3 f4 f5
    go_wp2_with fail
    refine (m1 _ (g.on hB)).mono ?_
    rintro x w3 ⟨u1, rfl, HU1, hk3⟩
    have hz3 := hz.on hk3
    have hws3 := hws.on hk3
    have hB3 := bel_next hB hk3
    have hq3 := Nat.lt_of_lt_of_le hlt hk3.size
    clear hz hws hB hk3 hlt m1 c0
    have c1 := hws3.cell (i := 1) (by rw [← HN.out]; omega)
    go_wp2_with fail
    refine (m2 _ (g.on hB3)).mono ?_
    rintro x w4 ⟨u2, rfl, HU2, hk4⟩
    have hz4 := hz3.on hk4
    have hws4 := hws3.on hk4
    have hB4 := bel_next hB3 hk4
    have hq4 := Nat.lt_of_lt_of_le hq3 hk4.size
    clear hz3 hws3 hB3 hk4 hq3 m2 c1
    have c2 := hws4.cell (i := 2) (by rw [← HN.out]; omega)
    go_wp2_with fail
    refine (m3 _).mono ?_
    rintro x w5 ⟨rfl, hk5⟩
    have hz := hz4.on hk5
    have hws := hws4.on hk5
    have hB := bel_next hB4 hk5
    have hlt := Nat.lt_of_lt_of_le hq4 hk5.size
    clear hz4 hws4 hB4 hk5 hq4 m3 c2
    obtain ⟨⟨y0, y1, y2, y3, y4, y5⟩, f0, f1, f2, f3, f4, f5⟩ := hz.cells
    by_cases hbad : b1 = false ∨ b2 = false ∨ K = 0
    · have hE : prsE W = none := by
        unfold prsE
        rw [if_neg (by rw [← HN.out]; omega)]
        split
        · rename_i x y f hx hy hf
          rcases hbad with h | h | h
          · rw [← HB1.out, hx] at h; cases h
          · rw [← HB2.out, hy] at h; cases h
          · rw [if_pos (Or.inl (by rw [← h, HK.out]; rfl))]
        · rfl
      have HE := Lib.hid hE
      clear hE
      have fin := HPE.out HE.out ((((((hB.setCell (p := ⟨r, 0, none⟩) hwr (.int .i64 0)).setCell (p := ⟨r, 1, none⟩) hwr (.int .u64 0)).setCell (p := ⟨r, 2, none⟩) hwr (.int .u64 0)).setCell (p := ⟨r, 3, none⟩) hwr (.int .u32 0)).setCell (p := ⟨r, 4, none⟩) hwr (.int .u32 0)).setCell (p := ⟨r, 5, none⟩) hwr (.int .u32 0))
      have FIN := Lib.hid fin
      clear fin HPE
      have hbad : b1 = false ∨ (b1 = true ∧ b2 = false) ∨ (b1 = true ∧ b2 = true ∧ K = 0) := by
        cases b1
        · exact Or.inl rfl
        · cases b2
          · exact Or.inr (Or.inl ⟨rfl, rfl⟩)
          · exact Or.inr (Or.inr ⟨rfl, rfl, by simpa using hbad⟩)
      rcases hbad with rfl | ⟨rfl, rfl⟩ | ⟨rfl, rfl, rfl⟩
      all_goals go_wp2_with fail
      all_goals exact bodyPost_ret (v := .tuple #[.agg #[.int .i64 0, .int .u64 0, .int .u64 0, .int .u32 0, .int .u32 0, .int .u32 0], .int .i64 3]) (by simp [results, Tryd.results17, go_sem, y0, y1, y2, y3, y4, y5]) rfl FIN.out
    · obtain ⟨rfl, rfl, hK0⟩ : b1 = true ∧ b2 = true ∧ K ≠ 0 := by
        refine ⟨?_, ?_, fun h => hbad (Or.inr (Or.inr h))⟩
        · cases b1
          · exact absurd (Or.inl rfl) hbad
          · rfl
        · cases b2
          · exact absurd (Or.inr (Or.inl rfl)) hbad
          · rfl
      clear hbad
      have dK : ((K : Int) == 0) = false := by rw [beq_eq_false_iff_ne]; omega
      have hsh := fun x => shape_any K x
      have HR := Lib.hid (prs_rnd K)
      generalize sh (K : Int) = tr at hsh HR
      obtain ⟨t0, t1, t2⟩ := tr
      simp only at hsh HR
      have hN5 : Num3 (w5.alloc (.cells #[.int .u32 0, .int .u32 0, .int .u32 0] 55)) w5.heap.size (fun _ => 0) := heap_alloc_new w5 _
      have hk5 := (Below.refl w5.heap.size w5).alloc (Nat.le_refl _) (.cells #[.int .u32 0, .int .u32 0, .int .u32 0] 55)
      clear y0 y1 y2 y3 y4 y5 f0 f1 f2 f3 f4 f5
      go_upto_region 10 with fail
      generalize w5.alloc (.cells #[.int .u32 0, .int .u32 0, .int .u32 0] 55) = w6 at hN5 hk5 ⊢
      obtain ⟨p, hp⟩ : ∃ p, p = w5.heap.size := ⟨_, rfl⟩
      rw [← hp] at hN5 ⊢
      have hz6 := hz.on hk5
      have hws6 := hws.on hk5
      have hB6 := bel_next hB hk5
      have hwp : w.heap.size ≤ p := by have := hB.size; omega
      have hqp : q < p := by omega
      have hrp : r < p := by omega
      clear hz hws hB hk5 hp hlt
      go_cut [11] (fun u wx => ∃ o3 : Nat, u = .slice (some ⟨q, o3, none⟩) (n - 3) (n - 3) ∧ (0 < n - 3 → o3 = 3) ∧ wx = w6)
      case first =>
        by_cases hn3 : n = 3
        · subst hn3
          go_wp2_with fail
          go_meet
          exact ⟨0, rfl, fun h => absurd h (by decide), rfl⟩
        · go_wp2_with fail
          go_meet
          exact ⟨3, rfl, fun _ => rfl, rfl⟩
      case rest =>
        obtain ⟨o3, rfl, ho3, rfl⟩ := hcut
        go_wp2_with fail
        refine (hsh _).mono ?_
        rintro x w7 ⟨rfl, hk7⟩
        have hz7 := hz6.on hk7
        have hws7 := hws6.on hk7
        have hB7 := bel_next hB6 hk7
        have hN7 := hN5.on hk7
        clear hz6 hws6 hB6 hk7 hN5 hsh
        go_upto_block 0 with fail
        go_wp2_with fail
        go_loopw [11, 57] (fun u x wr => ∃ (i c o m : Nat) (f : Nat → Nat), x = .int .i64 i ∧ i ≤ 3 ∧ u = .slice (some ⟨q, o, none⟩) m m ∧ m + (3 + c) = n ∧ (0 < m → o = 3 + c) ∧ Hid (tkN K (W.drop 3) i = some (f, W.drop (3 + c))) ∧ Hid ((∀ j, f j < 4294967296) ∧ (∀ j, i ≤ j → f j = 0)) ∧ Rz wr r ∧ WsIn wr q W ∧ Below w.heap.size w wr ∧ Num3 wr p f) (fun _ x _ => 3 - (intOf x).toNat)
        case atStart => exact ⟨0, 0, o3, n - 3, fun _ => 0, rfl, by omega, rfl, by omega, fun h => by have := ho3 h; omega, Lib.hid rfl, Lib.hid ⟨fun _ => by show (0 : Nat) < _; decide, fun _ _ => rfl⟩, hz7, hws7, hB7, hN7⟩
        case round =>
          obtain ⟨i, c, o, m, f, rfl, hi, rfl, hm, ho, HT, HF, hz, hws, hB, hN⟩ := hrel
          clear hz7 hws7 hB7 hN7
          obtain ⟨⟨y0, y1, y2, y3, y4, y5⟩, f0, f1, f2, f3, f4, f5⟩ := hz.cells
          by_cases hlt : i < 3
          · obtain ⟨s3, hix, hhas⟩ := HR.out i hlt
            have hix := hix wr
            have h3i : (i : Int) < 3 := by omega
            have h0i : (0 : Int) ≤ i := by omega
            have HS := Lib.hid (tkN_step HT.out)
            by_cases hs0 : s3 = 0
            · have ds : ((s3 : Int) == 0) = true := by rw [hs0]; rfl
              have HS2 := Lib.hid (show tkN K (W.drop 3) (i + 1) = some (f, W.drop (3 + c)) by
                rw [HS.out, hhas, hs0]
                show some (fun j => if j = i then 0 else f j, W.drop (3 + c)) = _
                rw [show (fun j => if j = i then 0 else f j) = f from funext fun j => by
                  by_cases hj : j = i
                  · rw [if_pos hj, HF.out.2 j (by omega)]
                  · rw [if_neg hj]])
              clear hs0 HS hhas
              go_wp2_with fail
              go_roundw
              case rel => exact ⟨i + 1, c, o, m, f, by go_num, by omega, rfl, hm, ho, HS2, Lib.hid ⟨HF.out.1, fun j hj => HF.out.2 j (by omega)⟩, hz, hws, hB, hN⟩
              case measure => simp [intOf]; omega
            · have ds : ((s3 : Int) == 0) = false := by rw [beq_eq_false_iff_ne]; omega
              have hhas : hasN K i = true := by rw [hhas]; simpa using hs0
              rw [hhas] at HS
              clear hs0 hhas
              have FIN := Lib.hid (fun (h : tkN K (W.drop 3) (i + 1) = none) (wx : World) (k : Below w.heap.size w wx) => HPE.out (prsE_none (by rw [← HK.out]; have := tkN_none h (2 - i); rwa [show i + 1 + (2 - i) = 3 by omega] at this)) ((((((k.setCell (p := ⟨r, 0, none⟩) hwr (.int .i64 0)).setCell (p := ⟨r, 1, none⟩) hwr (.int .u64 0)).setCell (p := ⟨r, 2, none⟩) hwr (.int .u64 0)).setCell (p := ⟨r, 3, none⟩) hwr (.int .u32 0)).setCell (p := ⟨r, 4, none⟩) hwr (.int .u32 0)).setCell (p := ⟨r, 5, none⟩) hwr (.int .u32 0)))
              by_cases hm0 : m = 0
              · have dm : ((m : Int) == 0) = true := by rw [hm0]; rfl
                have HE := Lib.hid (show tkN K (W.drop 3) (i + 1) = none by rw [HS.out, List.drop_of_length_le (by rw [← HN.out]; omega)]; rfl)
                clear hm0
                go_wp2_with fail
                exact bodyPost_ret (v := .tuple #[.agg #[.int .i64 0, .int .u64 0, .int .u64 0, .int .u32 0, .int .u32 0, .int .u32 0], .int .i64 3]) (by simp [results, Tryd.results17, go_sem, y0, y1, y2, y3, y4, y5]) rfl (FIN.out HE.out _ hB)
              · have dm : ((m : Int) == 0) = false := by rw [beq_eq_false_iff_ne]; omega
                have hm1 : (0 : Int) < m := by omega
                obtain rfl : o = 3 + c := ho (by omega)
                have c0 := hws.cell (i := 3 + c) (by rw [← HN.out]; omega)
                rw [drop_at (j := 3 + c) (by rw [← HN.out]; omega)] at HS
                obtain ⟨b, hb⟩ : ∃ b, (numP 32 (W.getD (3 + c) [])).isSome = b := ⟨_, rfl⟩
                have m1 := fun x gx => number_w W (3 + c) 32 (Or.inl rfl) b hb (by have := hsz (3 + c); omega) x gx
                have HB := Lib.hid hb
                clear hb hm0 ho y0 y1 y2 y3 y4 y5 f0 f1 f2 f3 f4 f5
                go_wp2_with fail
                refine (m1 _ (g.on hB)).mono ?_
                rintro x w8 ⟨u, rfl, HU, hk8⟩
                have hz8 := hz.on hk8
                have hws8 := hws.on hk8
                have hB8 := bel_next hB hk8
                have hN8 := hN.on hk8
                clear hz hws hB hN hk8 m1 c0 hix
                obtain ⟨⟨y0, y1, y2, y3, y4, y5⟩, f0, f1, f2, f3, f4, f5⟩ := hz8.cells
                cases b
                · have HE := Lib.hid (show tkN K (W.drop 3) (i + 1) = none by
                    rw [HS.out]
                    show ((numP 32 (W.getD (3 + c) [])).map _).map _ = none
                    rw [show numP 32 (W.getD (3 + c) []) = none by have := HB.out; cases h : numP 32 (W.getD (3 + c) []) with | none => rfl | some v => rw [h] at this; cases this]
                    rfl)
                  go_wp2_with fail
                  exact bodyPost_ret (v := .tuple #[.agg #[.int .i64 0, .int .u64 0, .int .u64 0, .int .u32 0, .int .u32 0, .int .u32 0], .int .i64 3]) (by simp [results, Tryd.results17, go_sem, y0, y1, y2, y3, y4, y5]) rfl (FIN.out HE.out _ hB8)
                · obtain ⟨v, hv⟩ := Option.isSome_iff_exists.1 HB.out
                  obtain rfl : u = v := HU.out.1 v hv
                  have hu : u < 4294967296 := by simpa using numP_lt (by decide) hv
                  have HE := Lib.hid (show tkN K (W.drop 3) (i + 1) = some (fun j => if j = i then u else f j, W.drop (3 + (c + 1))) by
                    rw [HS.out]
                    show ((numP 32 (W.getD (3 + c) [])).map _).map _ = _
                    rw [hv]
                    rfl)
                  clear hv HU HB FIN HS y0 y1 y2 y3 y4 y5 f0 f1 f2 f3 f4 f5
                  obtain ⟨c1, fz1⟩ := hN8.cell hlt
                  have hm1' : (1 : Int) ≤ m := by omega
                  have hpl : p < w8.heap.size := blk_lt (show w8.heap[p]? = some _ from hN8)
                  have hset : Rz ((w8.setCell ⟨p, i, none⟩ (.int .u32 u)).drew) r ∧ WsIn ((w8.setCell ⟨p, i, none⟩ (.int .u32 u)).drew) q W ∧ Below w.heap.size w ((w8.setCell ⟨p, i, none⟩ (.int .u32 u)).drew) ∧ Num3 ((w8.setCell ⟨p, i, none⟩ (.int .u32 u)).drew) p (fun j => if j = i then u else f j) := by
                    have hb : Below p w8 ((w8.setCell ⟨p, i, none⟩ (.int .u32 u)).drew) := (((Below.refl w8.heap.size w8).mono (Nat.le_of_lt hpl)).setCell (Nat.le_refl _) _).drew
                    refine ⟨(hb.block _ hrp).trans hz8, ?_, (hB8.trans (hb.mono hwp)), Num3.set (w := w8) hN8 hlt u⟩
                    obtain ⟨cs, fz, a1, a2, a3⟩ := hws8
                    exact ⟨cs, fz, (hb.block _ hqp).trans a1, a2, a3⟩
                  have HSET := Lib.hid hset
                  have HF2 := Lib.hid (show (∀ j, (if j = i then u else f j) < 4294967296) ∧ (∀ j, i + 1 ≤ j → (if j = i then u else f j) = 0) from ⟨fun j => by
                    split
                    · exact hu
                    · exact HF.out.1 j, fun j hj => by
                    rw [if_neg (by omega)]
                    exact HF.out.2 j (by omega)⟩)
                  clear hset hpl hz8 hws8 hB8 hN8
                  go_upto_region 20 with fail
                  by_cases hme : m = 1
                  · subst hme
                    go_region
                    go_wp2_with fail
                    obtain ⟨q1, q2, q3, q4⟩ := HSET.out
                    go_roundw
                    case rel => exact ⟨i + 1, c + 1, 3 + c, 0, _, by go_num, by omega, rfl, by omega, (fun h => absurd h (by decide)), HE, HF2, q1, q2, q3, q4⟩
                    case measure => simp [intOf]; omega
                  · go_region
                    go_wp2_with fail
                    obtain ⟨q1, q2, q3, q4⟩ := HSET.out
                    go_roundw
                    case rel => exact ⟨i + 1, c + 1, 3 + c + 1, m - 1, _, by go_num, by omega, rfl, by omega, (fun h => by omega), HE, HF2, q1, q2, q3, q4⟩
                    case measure => simp [intOf]; omega
          · obtain rfl : i = 3 := by omega
            have HPR := Lib.hid (prsE_of HN.out h3 HB1.out HU1.out.1 HB2.out HU2.out.1 HK.out hK0 HT.out)
            obtain ⟨n0, z0⟩ := hN.cell (i := 0) (by decide)
            obtain ⟨n1, z1⟩ := hN.cell (i := 1) (by decide)
            obtain ⟨n2, z2⟩ := hN.cell (i := 2) (by decide)
            have g0 : f 0 < 4294967296 := HF.out.1 0
            have g1 : f 1 < 4294967296 := HF.out.1 1
            have g2 : f 2 < 4294967296 := HF.out.1 2
            have g3 : u1 < 18446744073709551616 := HU1.out.2
            have g4 : u2 < 18446744073709551616 := HU2.out.2
            have hck := fun x => check_any ⟨K, u2, u1, f 0, f 1, f 2⟩ x
            simp only [Ev.val] at hck
            generalize f 0 = a0 at *
            generalize f 1 = a1 at *
            generalize f 2 = a2 at *
            have hdr : m = 0 ↔ W.drop (3 + c) = [] := by
              rw [List.drop_eq_nil_iff]
              rw [← HN.out]
              omega
            have HDR := Lib.hid hdr
            clear hdr
            have hO := heap_alloc_new wr (.cells #[.int .i64 K, .int .u64 u2, .int .u64 u1, .int .u32 a0, .int .u32 a1, .int .u32 a2] 25)
            have hk9 := (Below.refl wr.heap.size wr).alloc (Nat.le_refl _) (.cells #[.int .i64 K, .int .u64 u2, .int .u64 u1, .int .u32 a0, .int .u32 a1, .int .u32 a2] 25)
            go_upto_region 23 with fail
            generalize wr.alloc (.cells #[.int .i64 K, .int .u64 u2, .int .u64 u1, .int .u32 a0, .int .u32 a1, .int .u32 a2] 25) = w9 at hO hk9 ⊢
            obtain ⟨t, ht⟩ : ∃ t, t = wr.heap.size := ⟨_, rfl⟩
            rw [← ht] at hO ⊢
            have hz9 := hz.on hk9
            have hB9 := bel_next hB hk9
            clear ht hk9 hz hB hN hws n0 n1 n2 z0 z1 z2 y0 y1 y2 y3 y4 y5 f0 f1 f2 f3 f4 f5
            obtain ⟨⟨y0, y1, y2, y3, y4, y5⟩, f0, f1, f2, f3, f4, f5⟩ := hz9.cells
            by_cases hm0 : m = 0
            · have HE := Lib.hid (show prsE W = some ⟨K, u2, u1, a0, a1, a2⟩ by rw [HPR.out, if_pos (HDR.out.1 hm0)])
              subst hm0
              obtain ⟨c0, c1, c2, c3, c4, c5⟩ := ev_cells (e := ⟨K, u2, u1, a0, a1, a2⟩) hO
              simp only at c0 c1 c2 c3 c4 c5
              go_wp2_with fail
              refine (hck _).mono ?_
              rintro x wa ⟨rfl, hka⟩
              have hza := hz9.on hka
              have hBa := bel_next hB9 hka
              have hOa := (hka.block _ (blk_lt hO)).trans hO
              clear hz9 hB9 hka hO c0 c1 c2 c3 c4 c5 y0 y1 y2 y3 y4 y5 f0 f1 f2 f3 f4 f5 hck
              obtain ⟨⟨y0, y1, y2, y3, y4, y5⟩, f0, f1, f2, f3, f4, f5⟩ := hza.cells
              obtain ⟨c0, c1, c2, c3, c4, c5⟩ := ev_cells (e := ⟨K, u2, u1, a0, a1, a2⟩) hOa
              simp only at c0 c1 c2 c3 c4 c5
              obtain ⟨ck, hcc⟩ : ∃ ck, ck = (Ev.mk K u2 u1 a0 a1 a2).chk := ⟨_, rfl⟩
              have HP := Lib.hid (show prs s.data.toList = fin ⟨K, u2, u1, a0, a1, a2⟩ by unfold prs; rw [← HW.out, HE.out])
              rw [← hcc]
              have HC := Lib.hid hcc
              clear hcc
              by_cases h0 : ck = 0
              · subst h0
                go_wp2_with fail
                exact bodyPost_ret (v := .tuple #[.agg #[.int .i64 K, .int .u64 u2, .int .u64 u1, .int .u32 a0, .int .u32 a1, .int .u32 a2], .int .i64 0]) (by simp [results, Tryd.results17, go_sem, y0, y1, y2, y3, y4, y5]) rfl (prs_ok HP.out HC.out ((((((hBa.setCell hwr _).setCell hwr _).setCell hwr _).setCell hwr _).setCell hwr _).setCell hwr _))
              · have d : (ck != 0) = true := by rw [bne_iff_ne]; exact h0
                have HF0 := Lib.hid h0
                clear h0
                go_wp2_with fail
                exact bodyPost_ret (v := .tuple #[.agg #[.int .i64 0, .int .u64 0, .int .u64 0, .int .u32 0, .int .u32 0, .int .u32 0], .int .i64 ck]) (by simp [results, Tryd.results17, go_sem, y0, y1, y2, y3, y4, y5]) rfl (prs_no HP.out HC.out HF0.out ((((((hBa.setCell hwr _).setCell hwr _).setCell hwr _).setCell hwr _).setCell hwr _).setCell hwr _))
            · have dm : 0 < m := by omega
              have HE := Lib.hid (show prsE W = none by rw [HPR.out, if_neg (fun h => hm0 (HDR.out.2 h))])
              have dmi : (0 : Int) < m := by omega
              clear hm0
              go_wp2_with fail
              exact bodyPost_ret (v := .tuple #[.agg #[.int .i64 0, .int .u64 0, .int .u64 0, .int .u32 0, .int .u32 0, .int .u32 0], .int .i64 3]) (by simp [results, Tryd.results17, go_sem, y0, y1, y2, y3, y4, y5]) rfl (HPE.out HE.out ((((((hB9.setCell hwr _).setCell hwr _).setCell hwr _).setCell hwr _).setCell hwr _).setCell hwr _))
end Go.Proofs.YtokjkfbbejalhaaDoor
