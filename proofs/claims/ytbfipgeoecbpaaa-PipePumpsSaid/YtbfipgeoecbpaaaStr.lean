/- Bytes in memory as a text. No condition. -/
import Derived.Test.YtbfipgeoecbpaaaCore
namespace Go.Proofs.Ytbfipgeoecbpaaa
open Go.RowKit
set_option linter.unusedVariables false
set_option linter.unusedSimpArgs false
/-- Bytes as a text. -/
theorem run_str_cells {P : Program} {w : World} {g n cap e src dst : Nat} {l : List UInt8} (hc : ∀ (j : Nat) (h : j < l.length), w.cell? ⟨g, j, none⟩ = some (.int .u8 l[j].toNat)) (hn : n = l.length)
    (hs : P.underlying src = some (.slice e)) (he : P.underlying e = some (.int .u8)) (hd : P.underlying dst = some .string) :
    (convert src dst (.slice (some ⟨g, 0, none⟩) n cap)).run P w = .ok (.string ⟨l.toArray⟩) w := by
  subst hn
  rw [run_convert_bytes_string w src dst e (some ⟨g, 0, none⟩) l.length cap hs he hd]
  have hcells : ∀ (j : Nat) (u : Value), (bv l)[j]? = some u → w.cell? ((⟨g, 0, none⟩ : Addr).add j) = some u := by
    intro j u hj
    have hjl : j < l.length := by
      rcases Nat.lt_or_ge j (bv l).length with q | q
      · rw [bv_length] at q; exact q
      · rw [List.getElem?_eq_none q] at hj; cases hj
    rw [Addr.add_lit, Nat.zero_add, hc j hjl, ← hj]
    simp [bv, List.getElem?_eq_getElem hjl]
  have hl := run_loadCells_list (P := P) w ⟨g, 0, none⟩ (bv l) hcells
  have hb : bv l = (l.map fun b => (b.toNat : Int)).map (Value.int .u8) := by simp [bv]
  rw [hb, List.length_map, List.length_map] at hl
  rw [run_bytesToString w ⟨g, 0, none⟩ l.length cap (l.map fun b => (b.toNat : Int)) hl]
  congr 2
  rw [fold_push]
  rfl
end Go.Proofs.Ytbfipgeoecbpaaa
