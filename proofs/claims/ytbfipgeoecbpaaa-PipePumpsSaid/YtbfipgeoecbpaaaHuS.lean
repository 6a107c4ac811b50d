/- Contracts of law09.great and of taffrailref09.Same at equal items. No condition but those that each names. -/
import Derived.Test.YtbfipgeoecbpaaaHuR
import Derived.Deep.QuietTactic
import Derived.BigQuiet
namespace Go.Proofs.Ytbfipgeoecbpaaa
open Go.RowKit
set_option linter.unusedVariables false
set_option linter.unusedSimpArgs false
set_option maxRecDepth 20000
theorem itIn_cell {w : World} {lo n cap : Nat} {ao : Option Addr} {l : List Itm} (h : ItIn w lo (.slice ao n cap) l) (hn : n = l.length) (hl : 0 < l.length) : ∃ g, ao = some ⟨g, 0, none⟩ ∧ l.length ≤ cap ∧ cap ≤ maxLen ∧ ∀ i, i < l.length → w.cell? ⟨g, i * 4, none⟩ = some (.int .i64 (l.getD i default).k) ∧ w.cell? ⟨g, i * 4 + 1, none⟩ = some (.int .u32 (l.getD i default).seq) ∧ w.cell? ⟨g, i * 4 + 2, none⟩ = some (.int .u32 (l.getD i default).lost) ∧ w.cell? ⟨g, i * 4 + 3, none⟩ = some (l.getD i default).sv := by
  subst hn
  have h0 := h.own
  rcases h0.2 with ⟨h1, h2⟩ | ⟨g, cp, cur, h1, hlo, hb, hnc, hcm, hrest⟩
  · simp only [Value.slice.injEq] at h1
    omega
  · simp only [Value.slice.injEq] at h1
    obtain ⟨rfl, _, rfl⟩ := h1
    refine ⟨g, rfl, hnc, hcm, fun i hi => ?_⟩
    have hc : ∀ j, j < 4 → w.cell? ⟨g, i * 4 + j, none⟩ = some ((l.getD i default).f j) := fun j hj => by
      have := h0.cells rfl (i * 4 + j) _ (itCells_at l i j hi hj)
      rw [Go.WideShapes.add_plain, Nat.zero_add] at this
      exact this
    exact ⟨hc 0 (by decide), hc 1 (by decide), hc 2 (by decide), hc 3 (by decide)⟩
theorem map_getD {l m : List Itm} (h : l.map Itm.p = m.map Itm.p) {i : Nat} (hi : i < l.length) : (l.getD i default).p = (m.getD i default).p := by
  have hl : l.length = m.length := by have := congrArg List.length h; simpa using this
  have e := congrArg (fun x : List PIt => x[i]?) h
  simp only [List.getElem?_map] at e
  rw [List.getElem?_eq_getElem hi, List.getElem?_eq_getElem (by omega)] at e
  simp only [Option.map_some, Option.some.injEq] at e
  rw [List.getD_eq_getElem?_getD, List.getD_eq_getElem?_getD, List.getElem?_eq_getElem hi, List.getElem?_eq_getElem (by omega)]
  exact e
theorem mem_getD {l : List Itm} {i : Nat} (hi : i < l.length) : l.getD i default ∈ l := by
  rw [List.getD_eq_getElem?_getD, List.getElem?_eq_getElem hi]
  exact List.getElem_mem _
set_option maxHeartbeats 1000000 in
theorem rsame9_any {w : World} {lo1 lo2 cap1 cap2 : Nat} {ao1 ao2 : Option Addr} {l m : List Itm} (h1 : ItIn w lo1 (.slice ao1 l.length cap1) l) (h2 : ItIn w lo2 (.slice ao2 m.length cap2) m) (he : l.map Itm.p = m.map Itm.p) (hn : l.length ≤ 1000000) (hev : ∀ x ∈ l, x.evs.length ≤ 1000000) :
    Calls Try.prog 50 #[.slice ao1 l.length cap1, .slice ao2 m.length cap2] w fun x w' => x = .returned (.bool true) ∧ ∃ n, w.drewN n = w' := by
  have hl : m.length = l.length := by have := congrArg List.length he; simpa using this.symm
  rw [hl]
  rw [hl] at h2
  have HE := Lib.hid (And.intro he hev)
  have HH := Lib.hid (And.intro h1 h2)
  have HL := Lib.hid hl
  clear he hev h1 h2 hl
  generalize hN : l.length = N at *
  go_enter Try.func50, Try.ntmps50
  go_wp2_with fail
  go_loopw [5] (fun x wr => ∃ (i n : Nat), x = .int .i64 i ∧ i ≤ N ∧ wr = w.drewN n) (fun x _ => N - (intOf x).toNat)
  case atStart => exact ⟨0, 0, rfl, Nat.zero_le _, rfl⟩
  case round =>
    obtain ⟨i, n, rfl, hi, rfl⟩ := hrel
    by_cases hlt : i < N
    · have hlt' : (i : Int) < N := by omega
      have H1 := HH.out.1.below (kept_drewN w n)
      have H2 := HH.out.2.below (kept_drewN w n)
      obtain ⟨W, hW⟩ : ∃ W, W = w.drewN n := ⟨_, rfl⟩
      rw [← hW] at H1 H2 ⊢
      have HW := Lib.hid hW
      clear hW
      obtain ⟨g, rfl, q1, q2, qc⟩ := itIn_cell H1 hN.symm (by omega)
      obtain ⟨g', rfl, q3, q4, qc'⟩ := itIn_cell H2 HL.out.symm (by have := HL.out; omega)
      obtain ⟨c0, c1, c2, c3⟩ := qc i (by omega)
      obtain ⟨d0, d1, d2, d3⟩ := qc' i (by have := HL.out; omega)
      have hp := map_getD HE.out.1 (show i < l.length by omega)
      have e1 := H1.evs _ (mem_getD (show i < l.length by omega))
      have e2 := H2.evs _ (mem_getD (show i < m.length by have := HL.out; omega))
      have hlen := HE.out.2 _ (mem_getD (show i < l.length by omega))
      generalize l.getD i default = x at *
      generalize m.getD i default = y at *
      obtain ⟨xk, xs, xl, xv, xe⟩ := x
      obtain ⟨yk, ys, yl, yv, ye⟩ := y
      simp only [Itm.p, Prod.mk.injEq] at hp
      obtain ⟨rfl, rfl, rfl, rfl⟩ := hp
      obtain ⟨⟨oa, ca, hxv⟩, e1⟩ := e1
      obtain ⟨⟨ob, cb, hyv⟩, e2⟩ := e2
      simp only at hxv hyv e1 e2 c0 c1 c2 c3 d0 d1 d2 d3 hlen
      subst hxv hyv
      have hs : ∀ a, Calls Try.prog 35 #[.slice oa xe.length ca, .slice ob xe.length cb] (W.drewN a) (fun e w'' => e = .returned (.bool true) ∧ ∃ m, w'' = W.drewN m) := fun a => Calls.quiet_of ((rsame_eq (W.drewN a) oa ob xe.length ca cb (fun i => xe.getD i default) (slArgN_own e1) (slArgN_own e2) hlen).mono fun e w' h => ⟨h.1, by obtain ⟨m9, h9⟩ := h.2; exact ⟨m9, h9.symm⟩⟩)
      clear qc qc' e1 e2 H1 H2
      go_upto_region 6 with fail
      go_quiet (exact hs _)
      go_wp2_with fail
      go_roundw
      case measure => simp [intOf]; omega
      case rel => exact ⟨i + 1, _, by go_num, by omega, by rw [HW.out, World.drewN_drewN]⟩
    · have hlt' : ¬ (i : Int) < N := by omega
      go_wp2_with fail
      go_ret
      exact ⟨rfl, _, rfl⟩
/-- Is there more than is fed? -/
def gsum (F : Nat → ByteArray) (len : Nat) : Nat → Nat
  | 0 => len
  | k + 1 => gsum F len k + min (F k).size 65536
theorem gsum_le (F : Nat → ByteArray) (len : Nat) : ∀ k, gsum F len k ≤ len + k * 65536
  | 0 => by simp [gsum]
  | k + 1 => by
    have := gsum_le F len k
    rw [gsum]
    omega
end Go.Proofs.Ytbfipgeoecbpaaa
