/- Contract of strings.Split at a blank. Conditions: the library's variables' data. -/
import Derived.Test.YtokjkfbbejalhaaDoorTt
namespace Go.Proofs.YtokjkfbbejalhaaDoor
open Go Go.RowKit
set_option linter.unusedVariables false
set_option linter.unusedSimpArgs false
set_option maxRecDepth 20000
/-- Word i of a line, as a text. -/
def wsB (W : List (List UInt8)) (i : Nat) : ByteArray := ⟨(W.getD i []).toArray⟩
def WsIn (w : World) (q : Nat) (W : List (List UInt8)) : Prop := ∃ cs fz, w.heap[q]? = some (.cells cs 9 (0, 0)) ∧ fz = true ∧ ∀ i, i < W.length → cs[i]? = some (.string (wsB W i))
theorem wds_len : ∀ (l : List UInt8) (w : List UInt8), w ∈ wds l → w.length ≤ l.length
  | [], w, h => by
    obtain rfl : w = [] := by simpa [wds] using h
    exact Nat.le_refl _
  | c :: r, w, h => by
    have hh := wds_cons r
    unfold wds at h
    split at h
    · rcases List.mem_cons.1 h with rfl | h
      · exact Nat.zero_le _
      · have := wds_len r w h
        simp; omega
    · rcases List.mem_cons.1 h with rfl | h
      · have := wds_len r ((wds r).headD []) (by rw [hh]; exact List.mem_cons_self)
        rw [List.length_cons, List.length_cons]; omega
      · have := wds_len r w (by rw [hh]; exact List.mem_cons_of_mem _ h)
        simp; omega
theorem wsB_size (l : List UInt8) (i : Nat) : (wsB (wds l) i).size ≤ l.length := by
  show ((wds l).getD i []).toArray.size ≤ _
  rw [List.size_toArray]
  by_cases h : i < (wds l).length
  · rw [List.getD_eq_getElem?_getD, List.getElem?_eq_getElem h]
    exact wds_len l _ (List.getElem_mem h)
  · rw [List.getD_eq_getElem?_getD, List.getElem?_eq_none (by omega)]
    exact Nat.zero_le _
theorem wds_pos (l : List UInt8) : 1 ≤ (wds l).length := by rw [wds_cons]; simp
theorem wds_le : ∀ l : List UInt8, (wds l).length ≤ l.length + 1
  | [] => by simp [wds]
  | c :: r => by
    have ih := wds_le r
    have hh := wds_pos r
    unfold wds
    split <;> simp <;> omega
theorem split_list (s : ByteArray) : (Lib.splitB ⟨#[32]⟩ 0 (Lib.countB s ⟨#[32]⟩) s).map (·.data.toList) = wds s.data.toList := by
  rw [Lib.splitB_data]
  have : Lib.countB s ⟨#[32]⟩ = Lib.count s.data.toList [32] := rfl
  rw [this]
  exact split_wds _
theorem split_any (s : ByteArray) (hs : s.size ≤ 100000) (w : World) (g : Gl w) :
    Calls Tryd.prog 30 #[.string s, .string ⟨#[32]⟩] w fun e w' => e = .returned (.slice (some ⟨w.heap.size, 0, none⟩) (wds s.data.toList).length (wds s.data.toList).length) ∧ WsIn w' w.heap.size (wds s.data.toList) ∧ Below w.heap.size w w' ∧ w.heap.size < w'.heap.size := by
  obtain ⟨m, hm⟩ := g.mxl
  have hl := split_list s
  have hn : Lib.countB s ⟨#[32]⟩ + 1 = (wds s.data.toList).length := by
    rw [← hl, List.length_map]
    exact (Lib.splitB_all ⟨#[32]⟩ (by decide) 0 _ s rfl).symm
  refine (Tryd.strings_Split s ⟨#[32]⟩ m w (by omega) hm (by decide)).mono ?_
  rintro e w' ⟨rfl, rfl⟩
  rw [hn]
  refine ⟨rfl, ⟨_, true, heap_alloc_new w _, rfl, fun i hi => ?_⟩, (Below.refl _ w).alloc (Nat.le_refl _) _, by simp⟩
  unfold wsB
  rw [← hl] at hi ⊢
  generalize Lib.splitB ⟨#[32]⟩ 0 (Lib.countB s ⟨#[32]⟩) s = L at hi ⊢
  rw [List.length_map] at hi
  rw [List.getD_eq_getElem?_getD, List.getElem?_map, List.getElem?_toArray, List.getElem?_map, List.getElem?_eq_getElem hi]
  rfl
end Go.Proofs.YtokjkfbbejalhaaDoor
