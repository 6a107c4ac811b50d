/- A ring in plain words and in memory: its room, its sizes; appending a size. No condition but those that each names. -/
import Derived.Test.YtbfipgeoecbpaaaCore
import Derived.Test.YtbfipgeoecbpaaaProg
import Derived.Deep.WholeRow
import Derived.Deep.OwnRows
import Derived.Maps.AppendAt
namespace Go.Proofs.Ytbfipgeoecbpaaa
open Go.RowKit
set_option linter.unusedVariables false
set_option linter.unusedSimpArgs false
set_option maxRecDepth 20000
/-! ### the room, plain -/
/-- The bytes that a room holds from a place on. -/
def cont (R : Nat → UInt8) (cap h n : Nat) : List UInt8 := (List.range n).map fun j => R ((h + j) % cap)
theorem cont_len (R : Nat → UInt8) (cap h n : Nat) : (cont R cap h n).length = n := by simp [cont]
/-- Behind k bytes of s laid from h on. -/
def layR (R : Nat → UInt8) (cap h : Nat) (s : List UInt8) : Nat → Nat → UInt8
  | 0 => R
  | k + 1 => fun i => if i = (h + k) % cap then s.getD k 0 else layR R cap h s k i
theorem layR_succ (R : Nat → UInt8) (cap h : Nat) (s : List UInt8) (k i : Nat) : layR R cap h s (k + 1) i = if i = (h + k) % cap then s.getD k 0 else layR R cap h s k i := rfl
theorem mod_ne {cap h j k : Nat} (h1 : j < k) (h2 : k < j + cap) : (h + j) % cap ≠ (h + k) % cap := by
  intro e
  have e2 := Nat.sub_mod_eq_zero_of_mod_eq e.symm
  rw [show h + k - (h + j) = k - j by omega, Nat.mod_eq_of_lt (by omega)] at e2
  omega
theorem layR_at (R : Nat → UInt8) (cap h : Nat) (s : List UInt8) : ∀ k, k ≤ cap → ∀ j, j < k → layR R cap h s k ((h + j) % cap) = s.getD j 0
  | k + 1, hk, j, hj => by
    rw [layR_succ]
    rcases Nat.lt_or_ge j k with h1 | h1
    · rw [if_neg (mod_ne h1 (by omega))]
      exact layR_at R cap h s k (by omega) j h1
    · rw [show j = k by omega, if_pos rfl]
theorem layR_off (R : Nat → UInt8) (cap h : Nat) (s : List UInt8) (i : Nat) : ∀ k, (∀ j, j < k → i ≠ (h + j) % cap) → layR R cap h s k i = R i
  | 0, _ => rfl
  | k + 1, hk => by
    rw [layR_succ, if_neg (hk k (Nat.lt_succ_self k))]
    exact layR_off R cap h s i k fun j hj => hk j (by omega)
theorem range_getD8 (l : List UInt8) : (List.range l.length).map (fun i => l.getD i 0) = l := by
  refine List.ext_getElem (by simp) fun i h1 h2 => ?_
  simp [List.getElem?_eq_getElem h2]
/-- What is laid behind what is held is held behind it. -/
theorem cont_lay (R : Nat → UInt8) {cap h n : Nat} {s : List UInt8} (hn : n + s.length ≤ cap) : cont (layR R cap (h + n) s s.length) cap h (n + s.length) = cont R cap h n ++ s := by
  unfold cont
  rw [List.range_add, List.map_append]
  congr 1
  · refine List.map_congr_left fun j hj => ?_
    rw [List.mem_range] at hj
    refine layR_off _ _ _ _ _ _ fun k hk => ?_
    rw [Nat.add_assoc]
    exact mod_ne (by omega) (by omega)
  · conv => rhs; rw [← range_getD8 s]
    rw [List.map_map]
    refine List.map_congr_left fun j hj => ?_
    rw [List.mem_range] at hj
    show layR R cap (h + n) s s.length ((h + (n + j)) % cap) = _
    rw [← Nat.add_assoc]
    exact layR_at R cap (h + n) s s.length (by omega) j hj
theorem cont_drop (R : Nat → UInt8) {cap h n m : Nat} (hm : m ≤ n) : cont R cap ((h + m) % cap) (n - m) = (cont R cap h n).drop m := by
  unfold cont
  obtain ⟨k, rfl⟩ : ∃ k, n = m + k := ⟨n - m, by omega⟩
  rw [Nat.add_sub_cancel_left, List.range_add, List.map_append, List.drop_append_of_le_length (by simp), List.drop_of_length_le (by simp), List.nil_append, List.map_map]
  refine List.map_congr_left fun j _ => ?_
  show R (((h + m) % cap + j) % cap) = R ((h + (m + j)) % cap)
  rw [Nat.mod_add_mod, Nat.add_assoc]
theorem cont_take (R : Nat → UInt8) {cap h n m : Nat} (hm : m ≤ n) : cont R cap h m = (cont R cap h n).take m := by
  unfold cont
  obtain ⟨k, rfl⟩ : ∃ k, n = m + k := ⟨n - m, by omega⟩
  rw [List.range_add, List.map_append, List.take_append_of_le_length (by simp), List.take_of_length_le (by simp)]
theorem cont_mod (R : Nat → UInt8) (cap h n : Nat) : cont R cap (h % cap) n = cont R cap h n := by
  unfold cont
  refine List.map_congr_left fun j _ => ?_
  rw [Nat.mod_add_mod]
/-! ### in memory -/
def IsRoom (w : World) (rb cap : Nat) (R : Nat → UInt8) : Prop := ∃ C, w.heap[rb]? = some (.cells C 5 (0, 0)) ∧ C.size = cap ∧ ∀ i, i < cap → C[i]? = some (.int .u8 (R i).toNat)
theorem IsRoom.cell {w : World} {rb cap : Nat} {R : Nat → UInt8} (h : IsRoom w rb cap R) {i : Nat} (hi : i < cap) : w.cell? ⟨rb, i, none⟩ = some (.int .u8 (R i).toNat) := by
  obtain ⟨C, h1, h2, h3⟩ := h
  rw [cell_blk h1]; exact h3 i hi
theorem IsRoom.frozen {w : World} {rb cap : Nat} {R : Nat → UInt8} (h : IsRoom w rb cap R) (i : Nat) : w.frozen? ⟨rb, i, none⟩ = false := by
  obtain ⟨C, h1, h2, h3⟩ := h
  exact frozen_blk h1 i
theorem IsRoom.lt {w : World} {rb cap : Nat} {R : Nat → UInt8} (h : IsRoom w rb cap R) : rb < w.heap.size := by
  obtain ⟨C, h1, h2, h3⟩ := h
  exact blk_lt h1
theorem IsRoom.keep {w w' : World} {rb cap : Nat} {R : Nat → UInt8} (h : IsRoom w rb cap R) (k : w'.heap[rb]? = w.heap[rb]?) : IsRoom w' rb cap R := by
  obtain ⟨C, h1, h2⟩ := h
  exact ⟨C, k.trans h1, h2⟩
theorem IsRoom.set {w : World} {rb cap : Nat} {R : Nat → UInt8} (h : IsRoom w rb cap R) {i : Nat} (hi : i < cap) (x : UInt8) : IsRoom (w.setCell ⟨rb, i, none⟩ (.int .u8 x.toNat)) rb cap (fun k => if k = i then x else R k) := by
  obtain ⟨C, h1, h2, h3⟩ := h
  refine ⟨_, blk_setCell h1 (i := i) _, by simpa using h2, fun k hk => ?_⟩
  rw [Array.getElem?_setIfInBounds]
  show _ = some (Value.int .u8 ((if k = i then x else R k : UInt8).toNat : Int))
  by_cases e : i = k
  · subst e
    rw [if_pos rfl, if_pos (by omega), if_pos rfl]
  · rw [if_neg e, if_neg (by omega)]
    exact h3 k hk
theorem IsRoom.made (w : World) (n : Nat) : IsRoom (w.alloc (.cells (madeCells #[.int .u8 0] n) 5)) w.heap.size n (fun _ => 0) := by
  refine ⟨_, heap_alloc_new w _, by simp [madeCells], fun i hi => ?_⟩
  simp [madeCells, hi, Nat.mod_one]
/-- A slice of sizes. -/
def SzIn (w : World) (v : Value) (l : List Nat) : Prop :=
  (v = .slice none 0 0 ∧ l = []) ∨ ∃ g off c C, v = .slice (some ⟨g, off, none⟩) l.length c ∧ w.heap[g]? = some (.cells C 3 (0, 0)) ∧ l.length ≤ c ∧ off + c ≤ C.size ∧ c ≤ maxLen ∧ ∀ (j : Nat) (h : j < l.length), C[off + j]? = some (.int .i64 l[j])
theorem SzIn.keep {w w' : World} {v : Value} {l : List Nat} (h : SzIn w v l) (k : ∀ g, v.ownBlock = some g → w'.heap[g]? = w.heap[g]?) : SzIn w' v l := by
  rcases h with h | ⟨g, off, c, C, rfl, h2, h3⟩
  · exact .inl h
  · exact .inr ⟨g, off, c, C, rfl, (k g rfl).trans h2, h3⟩
theorem SzIn.form {w : World} {v : Value} {l : List Nat} (h : SzIn w v l) : ∃ ao c, v = .slice ao l.length c := by
  rcases h with ⟨rfl, rfl⟩ | ⟨g, off, c, C, rfl, h2, h3⟩
  · exact ⟨_, _, rfl⟩
  · exact ⟨_, _, rfl⟩
theorem SzIn.lt {w : World} {v : Value} {l : List Nat} (h : SzIn w v l) {g : Nat} (hg : v.ownBlock = some g) : g < w.heap.size := by
  rcases h with ⟨rfl, rfl⟩ | ⟨g', off, c, C, rfl, h2, h3⟩
  · cases hg
  · obtain rfl : g' = g := by simpa [Value.ownBlock] using hg
    exact blk_lt h2
theorem SzIn.at0 {w : World} {v : Value} {x : Nat} {l : List Nat} (h : SzIn w v (x :: l)) : ∃ g off c C, v = .slice (some ⟨g, off, none⟩) (l.length + 1) c ∧ w.heap[g]? = some (.cells C 3 (0, 0)) ∧ l.length + 1 ≤ c ∧ off + c ≤ C.size ∧ c ≤ maxLen ∧ C[off]? = some (.int .i64 x) ∧ ∀ (j : Nat) (h : j < l.length), C[off + (j + 1)]? = some (.int .i64 l[j]) := by
  rcases h with ⟨_, h⟩ | ⟨g, off, c, C, rfl, h2, h3, h4, h5, h6⟩
  · cases h
  · exact ⟨g, off, c, C, rfl, h2, h3, h4, h5, h6 0 (by simp), fun j hj => h6 (j + 1) (by simpa using hj)⟩
/-- The first size is dropped. -/
theorem SzIn.tail {w : World} {x : Nat} {l : List Nat} {g off n c : Nat} (h : SzIn w (.slice (some ⟨g, off, none⟩) n c) (x :: l)) : SzIn w (.slice (some ⟨g, off + 1, none⟩) (n - 1) (c - 1)) l := by
  obtain ⟨g', off', c', C, e, h2, h3, h4, h5, h6, h7⟩ := h.at0
  simp only [Value.slice.injEq, Option.some.injEq, Addr.mk.injEq, and_true] at e
  obtain ⟨⟨rfl, rfl⟩, rfl, rfl⟩ := e
  refine .inr ⟨g, off + 1, c - 1, C, by simp, h2, by omega, by omega, by omega, fun j hj => ?_⟩
  rw [Nat.add_assoc, Nat.add_comm 1 j]
  exact h7 j hj
/-- The first size is written anew. -/
theorem SzIn.head {w : World} {x : Nat} {l : List Nat} {g off n c : Nat} (h : SzIn w (.slice (some ⟨g, off, none⟩) n c) (x :: l)) (y : Nat) : SzIn (w.setCell ⟨g, off, none⟩ (.int .i64 y)) (.slice (some ⟨g, off, none⟩) n c) (y :: l) := by
  obtain ⟨g', off', c', C, e, h2, h3, h4, h5, h6, h7⟩ := h.at0
  simp only [Value.slice.injEq, Option.some.injEq, Addr.mk.injEq, and_true] at e
  obtain ⟨⟨rfl, rfl⟩, rfl, rfl⟩ := e
  refine .inr ⟨g, off, c, _, by simp, blk_setCell h2 (i := off) _, by simpa using h3, by simpa using h4, h5, fun j hj => ?_⟩
  rw [Array.getElem?_setIfInBounds]
  match j, hj with
  | 0, _ => rw [Nat.add_zero, if_pos rfl, if_pos (by omega)]; rfl
  | j + 1, hj =>
    rw [if_neg (by omega)]
    exact h7 j (by simpa using hj)
theorem int_info : ∃ i, Try.prog.info? 3 = some i ∧ i.zero = some (.int .i64 0) ∧ i.size = 1 ∧ i.bytes = 8 := by
  have h : Try.prog.info? 3 = some ((Try.prog.info? 3).get (by kernel_rfl)) := (Option.some_get _).symm
  exact ⟨_, h, by kernel_rfl, by kernel_rfl, by kernel_rfl⟩
theorem ul_ints : Try.prog.underlying 98 = some (.slice 3) := by kernel_rfl
theorem run_append_at {P : Program} {w : World} (t ty e : TypeId) (i : TypeInfo) (ht : P.underlying t = some (.slice e)) (hi : P.info? e = some i)
    (g off sLen sCap : Nat) (cur : Array Value) (hg : w.heap[g]? = some (.cells cur e (0, 0)))
    (a : Addr) (m c : Nat) (news : List Value) (hl : news.length = m * i.size) (hnews : ∀ j u, news[j]? = some u → w.cell? (a.add j) = some u) (h1 : ∀ u ∈ news, u.oneCell' = true)
    (hroom : sLen + m ≤ sCap) (hfit : off + sLen * i.size + news.length ≤ cur.size) :
    (Builtin.append_ #[t, t] ty #[.slice (some ⟨g, off, none⟩) sLen sCap, .slice (some a) m c]).run P w =
      .ok (.slice (some ⟨g, off, none⟩) (sLen + m) sCap) (w.setRow g (cur.toList.take (off + sLen * i.size) ++ news ++ cur.toList.drop (off + sLen * i.size + news.length)).toArray) := by
  have hf := run_firstCells_some (P := P) w i.size m a m c news hl hnews
  have hst := run_storeCells_at P g (off + sLen * i.size) e news 0 cur w hg (by simpa using hfit) h1
  simp only [Nat.add_zero] at hst
  simp [Builtin.append_, run_underlying ht, sizeOf, typeInfo, hi, Builtin.lenOf, hroom, hf, Addr.add_lit, hst]
theorem setRow_blk {w : World} {g : Nat} {C D : Array Value} {t : TypeId} (h : w.heap[g]? = some (.cells C t (0, 0))) : (w.setRow g D).heap[g]? = some (.cells D t (0, 0)) := by
  simp [World.setRow, Array.getElem?_modify, h]
theorem setRow_grown {w : World} {g : Nat} {D : Array Value} : w.grownBy (w.setRow g D) (some g) := by
  refine ⟨rfl, rfl, rfl, by simp [World.setRow], fun k _ hk => ?_⟩
  have : g ≠ k := fun e => hk (by rw [e])
  simp [World.setRow, Array.getElem?_modify, this]
theorem splice_at {cur : List Value} {news : List Value} {p j : Nat} (hp : p + news.length ≤ cur.length) : (cur.take p ++ news ++ cur.drop (p + news.length))[j]? = if j < p then cur[j]? else if j < p + news.length then news[j - p]? else cur[j]? := by
  by_cases h1 : j < p
  · rw [if_pos h1, List.append_assoc, List.getElem?_append_left (by rw [List.length_take]; omega), List.getElem?_take, if_pos h1]
  · rw [if_neg h1]
    have hl : (cur.take p).length = p := by rw [List.length_take]; omega
    by_cases h2 : j < p + news.length
    · rw [if_pos h2, List.getElem?_append_left (by rw [List.length_append]; omega), List.getElem?_append_right (by omega), hl]
    · rw [if_neg h2, List.getElem?_append_right (by rw [List.length_append]; omega), List.getElem?_drop, List.length_append, hl]
      congr 1
      omega
/-- A size is appended. -/
theorem append_sz {w : World} {v : Value} {l : List Nat} (h : SzIn w v l) (n ga c : Nat) (ha : w.cell? ⟨ga, 0, none⟩ = some (.int .i64 n)) (ty : TypeId) (hl : l.length + 1 ≤ 10000000) :
    ∃ v' w', (Builtin.append_ #[98, 98] ty #[v, .slice (some ⟨ga, 0, none⟩) 1 c]).run Try.prog w = .ok v' w' ∧ SzIn w' v' (l ++ [n]) ∧ w.grownBy w' v.ownBlock ∧ (v'.ownBlock = v.ownBlock ∨ v'.ownBlock = some w.heap.size) := by
  obtain ⟨i0, hi, hz0, hz1, hz2⟩ := int_info
  have hnews : ∀ (j : Nat) (u : Value), [Value.int .i64 (n : Int)][j]? = some u → w.cell? ((⟨ga, 0, none⟩ : Addr).add j) = some u := by
    intro j u hj
    match j, hj with
    | 0, hj =>
      have : Value.int .i64 (n : Int) = u := by simpa using hj
      subst this
      rw [Addr.add_lit]; exact ha
    | j + 1, hj => simp at hj
  have h1 : ∀ u ∈ [Value.int .i64 (n : Int)], u.oneCell' = true := by
    intro u hu
    obtain rfl : u = _ := by simpa using hu
    rfl
  rcases h with ⟨rfl, rfl⟩ | ⟨g, off, cc, C, rfl, h2, h3, h4, h5, h6⟩
  · obtain ⟨v', w', r1, r2, r3, _, r5⟩ := run_append_own_at (P := Try.prog) w w.heap.size 98 ty 3 i0 (.int .i64 0) 1 8 ul_ints hi hz0 hz1 hz2 rfl (by decide) (.slice none 0 0) 0 [] (World.ownsRow_nil _ _ _ _) ⟨ga, 0, none⟩ 1 c [.int .i64 n] rfl hnews h1 (by unfold maxLen; omega) (by omega) (Nat.le_refl _)
    refine ⟨v', w', r1, ?_, r3, r5⟩
    rcases r2.2 with ⟨_, h0⟩ | ⟨g, cap, cur, e1, e2, e3, e4, e5, e6, e7⟩
    · omega
    · refine .inr ⟨g, 0, cap, cur, e1, e3, e4, by omega, e5, fun j hj => ?_⟩
      have hj0 : j = 0 := by simpa using hj
      subst hj0
      have := congrArg (fun x : List Value => x[0]?) e7
      simp only [List.getElem?_take] at this
      simpa using this
  · by_cases hr : l.length + 1 ≤ cc
    · have := run_append_at (P := Try.prog) (w := w) 98 ty 3 i0 ul_ints hi g off l.length cc C h2 ⟨ga, 0, none⟩ 1 c [.int .i64 n] (by rw [hz1]; rfl) hnews h1 hr (by rw [hz1]; simp; omega)
      rw [hz1] at this
      refine ⟨_, _, this, .inr ⟨g, off, cc, _, by simp, setRow_blk h2, by simpa using hr, ?_, h5, fun j hj => ?_⟩, setRow_grown, .inl rfl⟩
      · simp
        omega
      · rw [List.getElem?_toArray, splice_at (by simp; omega)]
        simp only [Nat.mul_one, List.length_singleton]
        have hjl : j < l.length + 1 := by simpa using hj
        by_cases hj2 : j < l.length
        · rw [if_pos (by omega), List.getElem_append_left hj2]
          simpa using h6 j hj2
        · obtain rfl : j = l.length := by omega
          rw [if_neg (by omega), if_pos (by omega), List.getElem_append_right (by omega)]
          simp
    · have hfit := growslice_fits (bytes := i0.bytes) (show cc < l.length + 1 by omega) (by rw [hz2]; omega)
      have := run_append_grow (P := Try.prog) (w := w) 98 ty 3 i0 (.int .i64 0) ul_ints hi hz0 ⟨g, off, none⟩ l.length cc (l.map fun x : Nat => Value.int .i64 x) (by rw [hz1]; simp) (fun j u hj => ?_) ⟨ga, 0, none⟩ 1 c [.int .i64 n] (by rw [hz1]; rfl) hnews (by omega) (by omega) hfit
      · have hge := grownCap_ge w (l.length + 1) cc 3
        have hle := grownCap_le_maxLen w (l.length + 1) cc 3 (by unfold maxLen; omega)
        refine ⟨_, _, this, .inr ⟨w.heap.size, 0, _, _, by simp, heap_alloc_new w.drew _, by simpa using hge, ?_, hle, fun j hj => ?_⟩, ⟨rfl, rfl, rfl, by simp, fun k hk _ => Below.heap_alloc _ _ _ hk⟩, .inr rfl⟩
        · have hzc : (Value.int .i64 0).cells.size = 1 := rfl
          simp [size_zeroCells, hzc]
          omega
        · have hjl : j < l.length + 1 := by simpa using hj
          rw [Nat.zero_add]
          have e1 : ((l.map fun x : Nat => Value.int .i64 x).toArray ++ [Value.int .i64 n].toArray ++ Builtin.zeroCells (Value.int .i64 0).cells (grownCap w (l.length + 1) cc 3 - (l.length + 1)))[j]? = (l ++ [n])[j]?.map fun x : Nat => Value.int .i64 x := by
            rw [Array.getElem?_append_left (by simp; omega)]
            simp only [List.append_toArray, List.getElem?_toArray]
            rw [← List.getElem?_map, List.map_append]
            rfl
          rw [e1, List.getElem?_eq_getElem hj]
          rfl
      · rw [List.getElem?_map] at hj
        cases hx : l[j]? with
        | none => rw [hx] at hj; cases hj
        | some x =>
          rw [hx] at hj
          have hjl : j < l.length := by
            rcases Nat.lt_or_ge j l.length with q | q
            · exact q
            · rw [List.getElem?_eq_none q] at hx; cases hx
          have e := h6 j hjl
          rw [List.getElem?_eq_getElem hjl] at hx
          simp only [Option.some.injEq] at hx
          simp only [Option.map_some, Option.some.injEq] at hj
          rw [Addr.add_lit, cell_blk h2, e, hx, hj]
/-! ### a ring in memory -/
structure Rg where
  rb : Nat
  cap : Nat
  pol : Int
  hd : Nat
  sv : Value
  used : Nat
  bg : Bool
  lo : Nat
def Rg.cells (X : Rg) : Array Value := #[.slice (some ⟨X.rb, 0, none⟩) X.cap X.cap, .int .i64 X.pol, .int .i64 X.hd, X.sv, .int .i64 X.used, .bool X.bg, .int .u64 X.lo]
/-- The blocks that a ring's calls may change. -/
def rgS (b : Nat) (X : Rg) (k : Nat) : Prop := k = b ∨ k = X.rb ∨ X.sv.ownBlock = some k
/-- Block b is a ring; R: its room; l: its sizes. -/
structure RgSt (w : World) (b : Nat) (X : Rg) (R : Nat → UInt8) (l : List Nat) : Prop where
  me : w.heap[b]? = some (.cells X.cells 100 (0, 0))
  room : IsRoom w X.rb X.cap R
  sz : SzIn w X.sv l
  hd : X.hd < X.cap
  cap : 179 ≤ X.cap ∧ X.cap ≤ 1048576
  used : X.used ≤ X.cap
  sum : l.sum = X.used
  pos : ∀ x ∈ l, 1 ≤ x
  lo : X.lo ≤ 1000000000000
section
variable {w w' : World} {b : Nat} {X : Rg} {R : Nat → UInt8} {l : List Nat}
theorem RgSt.cells (h : RgSt w b X R l) : w.cell? ⟨b, 0, none⟩ = some (.slice (some ⟨X.rb, 0, none⟩) X.cap X.cap) ∧ w.cell? ⟨b, 1, none⟩ = some (.int .i64 X.pol) ∧ w.cell? ⟨b, 2, none⟩ = some (.int .i64 X.hd) ∧ w.cell? ⟨b, 3, none⟩ = some X.sv ∧ w.cell? ⟨b, 4, none⟩ = some (.int .i64 X.used) ∧ w.cell? ⟨b, 5, none⟩ = some (.bool X.bg) ∧ w.cell? ⟨b, 6, none⟩ = some (.int .u64 X.lo) := by
  refine ⟨?_, ?_, ?_, ?_, ?_, ?_, ?_⟩ <;> (rw [cell_blk h.me]; rfl)
theorem RgSt.frozen (h : RgSt w b X R l) (i : Nat) : w.frozen? ⟨b, i, none⟩ = false := frozen_blk h.me i
theorem RgSt.b_rb (h : RgSt w b X R l) : b ≠ X.rb := by
  rintro rfl
  obtain ⟨C, h1, _⟩ := h.room
  have := h.me
  rw [h1] at this
  simp only [Option.some.injEq, Obj.cells.injEq] at this
  exact absurd this.2.1 (by decide)
theorem RgSt.sv_ty (h : RgSt w b X R l) {k : Nat} (hk : X.sv.ownBlock = some k) : ∃ C, w.heap[k]? = some (.cells C 3 (0, 0)) := by
  rcases h.sz with ⟨e, _⟩ | ⟨g, off, c, C, e, h2, _⟩
  · rw [e] at hk; cases hk
  · rw [e] at hk
    obtain rfl : g = k := by simpa [Value.ownBlock] using hk
    exact ⟨C, h2⟩
theorem RgSt.sv_b (h : RgSt w b X R l) : X.sv.ownBlock ≠ some b := by
  intro hk
  obtain ⟨C, h1⟩ := h.sv_ty hk
  have := h.me
  rw [h1] at this
  simp only [Option.some.injEq, Obj.cells.injEq] at this
  exact absurd this.2.1 (by decide)
theorem RgSt.sv_rb (h : RgSt w b X R l) : X.sv.ownBlock ≠ some X.rb := by
  intro hk
  obtain ⟨C, h1⟩ := h.sv_ty hk
  obtain ⟨D, h2, _⟩ := h.room
  rw [h1] at h2
  simp only [Option.some.injEq, Obj.cells.injEq] at h2
  exact absurd h2.2.1 (by decide)
theorem RgSt.only {S : Nat → Prop} (h : RgSt w b X R l) (o : Only S w w') (hn : ∀ k, rgS b X k → ¬ S k) : RgSt w' b X R l :=
  { h with
    me := o.keeps h.me (hn b (.inl rfl))
    room := h.room.keep (o.block _ h.room.lt (hn _ (.inr (.inl rfl))))
    sz := h.sz.keep fun g hg => o.block _ (h.sz.lt hg) (hn g (.inr (.inr hg))) }
theorem RgSt.below (h : RgSt w b X R l) (k : Below w.heap.size w w') : RgSt w' b X R l := h.only (Only.of_below k (fun _ => False)) fun _ _ x => x
/-- A block of another type is none of the ring's. -/
theorem RgSt.other (h : RgSt w b X R l) {k : Nat} {C : Array Value} {T : TypeId} {fz : Nat × Nat} (hk : w.heap[k]? = some (.cells C T fz)) (h1 : T ≠ 100) (h2 : T ≠ 5) (h3 : T ≠ 3) : ¬ rgS b X k := by
  rintro (rfl | rfl | hs)
  · rw [h.me] at hk
    simp only [Option.some.injEq, Obj.cells.injEq] at hk
    exact h1 hk.2.1.symm
  · obtain ⟨D, e, _⟩ := h.room
    rw [e] at hk
    simp only [Option.some.injEq, Obj.cells.injEq] at hk
    exact h2 hk.2.1.symm
  · obtain ⟨D, e⟩ := h.sv_ty hs
    rw [e] at hk
    simp only [Option.some.injEq, Obj.cells.injEq] at hk
    exact h3 hk.2.1.symm
theorem RgSt.len (h : RgSt w b X R l) : l.length ≤ X.used := by
  rw [← h.sum]
  have key : ∀ l : List Nat, (∀ x ∈ l, 1 ≤ x) → l.length ≤ l.sum := by
    intro l
    induction l with
    | nil => exact fun _ => Nat.le_refl _
    | cons x l ih =>
      intro hp
      have h1 := hp x (by simp)
      have h2 := ih fun y hy => hp y (by simp [hy])
      simp only [List.length_cons, List.sum_cons]
      omega
  exact key l h.pos
end
end Go.Proofs.Ytbfipgeoecbpaaa
