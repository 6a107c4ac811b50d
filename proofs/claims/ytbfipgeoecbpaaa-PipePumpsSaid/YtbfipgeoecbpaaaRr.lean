/- The document's ring (ref08) in memory; Used, Put where the newest is dropped. No condition but those that each names. -/
import Derived.Test.YtbfipgeoecbpaaaRgE
import Derived.Test.YtbfipgeoecbpaaaPipeR
import Derived.Test.YtbfipgeoecbpaaaRgA
import Derived.Deep.LoopGhost
import Derived.WalkMore
namespace Go.Proofs.Ytbfipgeoecbpaaa
open Go.RowKit
set_option linter.unusedVariables false
set_option linter.unusedSimpArgs false
set_option maxRecDepth 20000
def toB (l : List UInt8) : ByteArray := ⟨l.toArray⟩
theorem toB_size (l : List UInt8) : (toB l).size = l.length := by show (List.toArray l).size = _; rw [List.size_toArray]
def bL (L : List (List UInt8)) : List ByteArray := L.map toB
theorem own_keepR {w w' : World} {base : Nat} {e : TypeId} {size : Nat} {v : Value} {n : Nat} {xs : List Value} (h : w.ownsRow base e size v n xs) (k : ∀ g, v.ownBlock = some g → w'.heap[g]? = w.heap[g]?) : w'.ownsRow base e size v n xs := by
  obtain ⟨h1, h2⟩ := h
  refine ⟨h1, ?_⟩
  rcases h2 with h | ⟨g, cap, cur, rfl, h4, h5, h6⟩
  · exact .inl h
  · exact .inr ⟨g, cap, cur, rfl, h4, (k g rfl).trans h5, h6⟩
theorem own_tyR {w : World} {base : Nat} {e : TypeId} {size : Nat} {v : Value} {n : Nat} {xs : List Value} (h : w.ownsRow base e size v n xs) {g : Nat} (hg : v.ownBlock = some g) : ∃ C, w.heap[g]? = some (.cells C e (0, 0)) := by
  rcases h.2 with ⟨rfl, _⟩ | ⟨g', cap, cur, rfl, _, h5, _⟩
  · cases hg
  · obtain rfl : g' = g := by simpa [Value.ownBlock] using hg
    exact ⟨cur, h5⟩
def rrCells (cap : Nat) (lv : Value) (bg : Bool) (lo : Nat) (gv : Value) : Array Value := #[.int .i64 cap, .int .i64 0, lv, .bool bg, .int .u64 lo, gv]
structure RrB (w : World) (m cap : Nat) (lv gv : Value) (L : List (List UInt8)) (GL : List ByteArray) (bg : Bool) (lo : Nat) (U : Nat → Prop) : Prop where
  me : w.heap[m]? = some (.cells (rrCells cap lv bg lo gv) 79 (0, 0))
  ol : w.ownsRow 0 9 1 lv L.length (sv (bL L))
  og : w.ownsRow 0 9 1 gv GL.length (sv GL)
  um : U m
  ul : ∀ g, lv.ownBlock = some g → U g
  ug : ∀ g, gv.ownBlock = some g → U g
  ne : ∀ g, lv.ownBlock = some g → gv.ownBlock ≠ some g
  gl : GL.length ≤ lo
  los : lo ≤ 1000000
  bgn : bg = true → L ≠ []
section
variable {w w' : World} {m cap : Nat} {lv gv : Value} {L : List (List UInt8)} {GL : List ByteArray} {bg : Bool} {lo : Nat} {U : Nat → Prop}
theorem RrB.vm (h : RrB w m cap lv gv L GL bg lo U) : lv.ownBlock ≠ some m ∧ gv.ownBlock ≠ some m := by
  have key : ∀ {v : Value} {n : Nat} {xs : List Value}, w.ownsRow 0 9 1 v n xs → v.ownBlock ≠ some m := by
    intro v n xs ho hg
    obtain ⟨C, hc⟩ := own_tyR ho hg
    have := h.me
    rw [hc] at this
    simp only [Option.some.injEq, Obj.cells.injEq] at this
    exact absurd this.2.1 (by decide)
  exact ⟨key h.ol, key h.og⟩
theorem RrB.only {S : Nat → Prop} (h : RrB w m cap lv gv L GL bg lo U) (o : Only S w w') (hn : ∀ k, U k → ¬ S k) : RrB w' m cap lv gv L GL bg lo U :=
  { h with
    me := o.keeps h.me (hn m h.um)
    ol := own_keepR h.ol fun g hg => o.block g (h.ol.lt g hg).2 (hn g (h.ul g hg))
    og := own_keepR h.og fun g hg => o.block g (h.og.lt g hg).2 (hn g (h.ug g hg)) }
theorem RrB.below (h : RrB w m cap lv gv L GL bg lo U) (k : Below w.heap.size w w') : RrB w' m cap lv gv L GL bg lo U := h.only (Only.of_below k (fun _ => False)) fun _ _ x => x
theorem RrB.mono {V : Nat → Prop} (h : RrB w m cap lv gv L GL bg lo U) (hs : ∀ k, U k → V k) : RrB w m cap lv gv L GL bg lo V :=
  { h with um := hs m h.um, ul := fun g hg => hs g (h.ul g hg), ug := fun g hg => hs g (h.ug g hg) }
theorem RrB.cells (h : RrB w m cap lv gv L GL bg lo U) (i : Nat) : w.cell? ⟨m, i, none⟩ = (rrCells cap lv bg lo gv)[i]? := cell_blk h.me i
theorem RrB.frozen (h : RrB w m cap lv gv L GL bg lo U) (i : Nat) : w.frozen? ⟨m, i, none⟩ = false := frozen_blk h.me i
theorem RrB.rows (h : RrB w m cap lv gv L GL bg lo U) (i : Nat) (v : Value) : (w.setCell ⟨m, i, none⟩ v).ownsRow 0 9 1 lv L.length (sv (bL L)) ∧ (w.setCell ⟨m, i, none⟩ v).ownsRow 0 9 1 gv GL.length (sv GL) := by
  obtain ⟨n1, n2⟩ := h.vm
  exact ⟨own_keepR h.ol fun g hg => Below.heap_setCell _ _ _ _ (fun q => n1 (by rw [hg, show g = m from q])), own_keepR h.og fun g hg => Below.heap_setCell _ _ _ _ (fun q => n2 (by rw [hg, show g = m from q]))⟩
theorem RrB.setLo (h : RrB w m cap lv gv L GL bg lo U) (u : Nat) (h1 : lo ≤ u) (h2 : u ≤ 1000000) : RrB (w.setCell ⟨m, 4, none⟩ (.int .u64 u)) m cap lv gv L GL bg u U :=
  { h with me := (blk_setCell h.me (i := 4) _).trans (by simp [rrCells]), ol := (h.rows 4 _).1, og := (h.rows 4 _).2, gl := Nat.le_trans h.gl h1, los := h2 }
theorem RrB.setBg (h : RrB w m cap lv gv L GL bg lo U) (u : Bool) (hu : u = true → L ≠ []) : RrB (w.setCell ⟨m, 3, none⟩ (.bool u)) m cap lv gv L GL u lo U :=
  { h with me := (blk_setCell h.me (i := 3) _).trans (by simp [rrCells]), ol := (h.rows 3 _).1, og := (h.rows 3 _).2, bgn := hu }
/-- The frames lie so. -/
theorem RrB.at (h : RrB w m cap lv gv L GL bg lo U) (hl : 0 < L.length) : ∃ g c, lv = .slice (some ⟨g, 0, none⟩) L.length c ∧ L.length ≤ c ∧ c ≤ maxLen ∧ g < w.heap.size ∧ ∀ i, i < L.length → w.cell? ⟨g, i, none⟩ = some (.string (toB (L.getD i []))) := by
  have hcells := fun g (hg : lv.ownBlock = some g) => h.ol.cells hg
  rcases h.ol.2 with ⟨h1, h2⟩ | ⟨g, cp, cur, h1, _, hb, hnc, hcm, _⟩
  · omega
  · refine ⟨g, cp, h1, hnc, hcm, blk_lt hb, fun i hi => ?_⟩
    have q := hcells g (by rw [h1]; rfl) i (.string (toB (L.getD i []))) (by
      simp only [sv, bL, List.map_map, List.getElem?_map]
      rw [List.getElem?_eq_getElem hi, List.getD_eq_getElem?_getD, List.getElem?_eq_getElem hi]
      rfl)
    rw [Go.WideShapes.add_plain, Nat.zero_add] at q
    exact q
end
/-- The document's ring. -/
structure Rr (w : World) (m cap : Nat) (L : List (List UInt8)) (bg : Bool) (lo : Nat) (U : Nat → Prop) : Prop where
  b : ∃ lv gv GL, RrB w m cap lv gv L GL bg lo U
  foot : ∀ k, U k → k < w.heap.size
section
variable {w w' : World} {m cap : Nat} {L : List (List UInt8)} {bg : Bool} {lo : Nat} {U : Nat → Prop}
theorem Rr.only {S : Nat → Prop} (h : Rr w m cap L bg lo U) (o : Only S w w') (hn : ∀ k, U k → ¬ S k) : Rr w' m cap L bg lo U := by
  obtain ⟨lv, gv, GL, b⟩ := h.b
  exact ⟨⟨lv, gv, GL, b.only o hn⟩, fun k hk => Nat.lt_of_lt_of_le (h.foot k hk) o.size⟩
theorem Rr.below (h : Rr w m cap L bg lo U) (k : Below w.heap.size w w') : Rr w' m cap L bg lo U := h.only (Only.of_below k (fun _ => False)) fun _ _ x => x
theorem Rr.same (h : Rr w m cap L bg lo U) : Rr w m cap L bg lo (grow U w w) := by
  obtain ⟨lv, gv, GL, b⟩ := h.b
  exact ⟨⟨lv, gv, GL, b.mono fun k hk => .inl hk⟩, grow_lt h.foot (Nat.le_refl _)⟩
def UsR (w : World) (L : List (List UInt8)) (g : Nat) (i n : Value) (wr : World) : Prop :=
  ∃ k : Nat, i = .int .i64 k ∧ k ≤ L.length ∧ n = .int .i64 (L.take k).flatten.length ∧ wr = w ∧ L.length - k ≤ g
theorem take_flatR {L : List (List UInt8)} {k : Nat} (h : k < L.length) : (L.take (k + 1)).flatten.length = (L.take k).flatten.length + (L.getD k []).length := by
  rw [List.take_add_one, List.flatten_append, List.getD_eq_getElem?_getD, List.getElem?_eq_getElem h, List.length_append]
  simp
theorem flat_leR (L : List (List UInt8)) (k : Nat) : (L.take k).flatten.length ≤ L.flatten.length := by
  have : L.flatten = (L.take k).flatten ++ (L.drop k).flatten := by rw [← List.flatten_append, List.take_append_drop]
  rw [this, List.length_append]; omega
theorem rrused_any (h : Rr w m cap L bg lo U) (hl : L.flatten.length ≤ 1000000000) (hll : L.length ≤ 1000000000) : Calls Try.prog 45 #[.pointer (some ⟨m, 0, none⟩)] w fun a w' => a = .returned (.int .i64 L.flatten.length) ∧ w = w' := by
  obtain ⟨lv, gv, GL, b⟩ := h.b
  obtain ⟨la, lc, rfl⟩ := owns_form b.ol
  have y2 := b.cells 2
  simp only [rrCells, List.getElem?_toArray, List.getElem?_cons_succ, List.getElem?_cons_zero] at y2
  have HB := Lib.hid b
  clear b h
  go_enter Try.func45, Try.ntmps45
  go_wp2_with fail
  go_loopg [4, 3] (L.length) (fun g i n wr => UsR w L g i n wr)
  case atStart => exact ⟨0, rfl, Nat.zero_le _, rfl, rfl, by omega⟩
  case round =>
    obtain ⟨k, rfl, hk, rfl, rfl, hg⟩ := hrel
    have hle := flat_leR L k
    by_cases hlt : k < L.length
    · have hlt' : (k : Int) < L.length := by omega
      obtain ⟨g0, c0, hlv, _, _, _, hc⟩ := HB.out.at (by omega)
      simp only [Value.slice.injEq] at hlv
      obtain ⟨rfl, _, rfl⟩ := hlv
      have d0 := hc k hlt
      have hnx := take_flatR hlt
      have hle2 := flat_leR L (k + 1)
      obtain ⟨N, hN⟩ : ∃ N, N = (L.take k).flatten.length := ⟨_, rfl⟩
      obtain ⟨S, hS⟩ : ∃ S, S = toB (L.getD k []) := ⟨_, rfl⟩
      have hSz : S.size = (L.getD k []).length := by rw [hS, toB_size]
      rw [← hS] at d0
      rw [← hN, ← hSz] at hnx
      rw [← hN] at hle ⊢
      have HN := Lib.hid (And.intro hN hnx)
      have hb1 : N + S.size ≤ 1000000000 := by rw [← hnx]; exact Nat.le_trans hle2 hl
      clear hN hS hSz hnx hle2 hc
      go_wp2_with fail
      obtain ⟨gg, rfl⟩ : ∃ gg, gk = gg + 1 := ⟨gk - 1, by omega⟩
      go_roundg gg
      case measure => omega
      case rel => exact ⟨k + 1, by go_num, by omega, by have e := HN.out.2; congr 1; omega, rfl, by omega⟩
    · have hlt' : ¬ (k : Int) < L.length := by omega
      obtain rfl : k = L.length := by omega
      rw [List.take_length]
      go_wp2_with fail
      go_ret
      exact ⟨rfl, rfl⟩
end
end Go.Proofs.Ytbfipgeoecbpaaa
