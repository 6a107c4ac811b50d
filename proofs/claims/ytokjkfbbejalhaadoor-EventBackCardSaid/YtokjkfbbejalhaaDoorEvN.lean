/- Contract of event.Name. No condition but those that each names. -/
import Derived.Test.YtokjkfbbejalhaaDoorProg
import Derived.Test.YtokjkfbbejalhaaDoorCore
import Derived.Test.YtokjkfbbejalhaaDoorEvA
import Derived.Deep.WholeRow
import Derived.Deep.DeepCutAuto
namespace Go.Proofs.YtokjkfbbejalhaaDoor
open Go.RowKit
set_option maxRecDepth 20000
/-- The kinds' names. -/
def nmL : List ByteArray := [⟨#[]⟩, ⟨#[105, 114, 113]⟩, ⟨#[100, 101, 118]⟩, ⟨#[101, 110, 116, 101, 114]⟩, ⟨#[101, 120, 105, 116]⟩, ⟨#[115, 119, 105, 116, 99, 104]⟩, ⟨#[114, 101, 108, 101, 97, 115, 101]⟩, ⟨#[108, 97, 116, 101]⟩, ⟨#[101, 110, 100]⟩, ⟨#[98, 108, 111, 99, 107]⟩, ⟨#[119, 97, 107, 101]⟩, ⟨#[108, 101, 118, 101, 108]⟩, ⟨#[108, 111, 99, 107]⟩, ⟨#[117, 110, 108, 111, 99, 107]⟩, ⟨#[112, 111, 115, 116]⟩, ⟨#[116, 97, 107, 101]⟩, ⟨#[115, 101, 110, 100]⟩, ⟨#[114, 101, 99, 118]⟩, ⟨#[116, 105, 109, 101, 114]⟩, ⟨#[97, 114, 109]⟩, ⟨#[111, 117, 116]⟩, ⟨#[102, 97, 117, 108, 116]⟩, ⟨#[104, 97, 108, 116]⟩, ⟨#[114, 101, 102, 117, 115, 101]⟩, ⟨#[99, 108, 111, 115, 101]⟩]
def nm (k : Int) : ByteArray := if isK k = true then nmL.getD k.toNat ⟨#[]⟩ else ⟨#[]⟩
theorem nm_no {k : Int} (h : isK k = false) : nm k = ⟨#[]⟩ := by unfold nm; rw [h]; rfl
theorem nm_full {k : Int} (h : isK k = true) : (nm k).toList.isEmpty = false := by
  have h1 : 1 ≤ k ∧ k ≤ 24 := by simpa [isK] using h
  rcases k_cases h1.1 h1.2 with rfl | rfl | rfl | rfl | rfl | rfl | rfl | rfl | rfl | rfl | rfl | rfl | rfl | rfl | rfl | rfl | rfl | rfl | rfl | rfl | rfl | rfl | rfl | rfl <;> decide +kernel
section
variable {P : Program} {w : World} {ops : Array Oper} {o : Oper} {a : Act} {Q : Exit → Act → World → Prop}
theorem list_alloc {rest : List Oper} (hg : o.guard = none) (t : TypeId) (ho : o.op = .alloc t) (z : Value) (hz : ∀ w, (zeroValue t).run P w = .ok z w)
    (hK : wpList P ops Q rest (a.put o.dst (.pointer (some ⟨w.heap.size, 0, none⟩))) (w.alloc (.cells z.cells t))) : wpList P ops Q (o :: rest) a w := by
  refine wpList_plain hg fun K hK' => ?_
  unfold Oper.wp
  simp [execOp, ho, hz, Result.andThen, go_sem]
  exact hK' _ _ hK
end
theorem zero_names : (Tryd.prog.info? 53).map (fun i => (i.zero, i.size)) = some (some (.agg #[.string ⟨#[]⟩, .string ⟨#[]⟩, .string ⟨#[]⟩, .string ⟨#[]⟩, .string ⟨#[]⟩, .string ⟨#[]⟩, .string ⟨#[]⟩, .string ⟨#[]⟩, .string ⟨#[]⟩, .string ⟨#[]⟩, .string ⟨#[]⟩, .string ⟨#[]⟩, .string ⟨#[]⟩, .string ⟨#[]⟩, .string ⟨#[]⟩, .string ⟨#[]⟩, .string ⟨#[]⟩, .string ⟨#[]⟩, .string ⟨#[]⟩, .string ⟨#[]⟩, .string ⟨#[]⟩, .string ⟨#[]⟩, .string ⟨#[]⟩, .string ⟨#[]⟩, .string ⟨#[]⟩]), 25) := by kernel_rfl
theorem nm_at : ∀ i, i < 25 → (#[.string ⟨#[]⟩, .string ⟨#[105, 114, 113]⟩, .string ⟨#[100, 101, 118]⟩, .string ⟨#[101, 110, 116, 101, 114]⟩, .string ⟨#[101, 120, 105, 116]⟩, .string ⟨#[115, 119, 105, 116, 99, 104]⟩, .string ⟨#[114, 101, 108, 101, 97, 115, 101]⟩, .string ⟨#[108, 97, 116, 101]⟩, .string ⟨#[101, 110, 100]⟩, .string ⟨#[98, 108, 111, 99, 107]⟩, .string ⟨#[119, 97, 107, 101]⟩, .string ⟨#[108, 101, 118, 101, 108]⟩, .string ⟨#[108, 111, 99, 107]⟩, .string ⟨#[117, 110, 108, 111, 99, 107]⟩, .string ⟨#[112, 111, 115, 116]⟩, .string ⟨#[116, 97, 107, 101]⟩, .string ⟨#[115, 101, 110, 100]⟩, .string ⟨#[114, 101, 99, 118]⟩, .string ⟨#[116, 105, 109, 101, 114]⟩, .string ⟨#[97, 114, 109]⟩, .string ⟨#[111, 117, 116]⟩, .string ⟨#[102, 97, 117, 108, 116]⟩, .string ⟨#[104, 97, 108, 116]⟩, .string ⟨#[114, 101, 102, 117, 115, 101]⟩, .string ⟨#[99, 108, 111, 115, 101]⟩] : Array Value)[i]? = some (.string (nmL.getD i ⟨#[]⟩))
  | 0, _ => rfl
  | 1, _ => rfl
  | 2, _ => rfl
  | 3, _ => rfl
  | 4, _ => rfl
  | 5, _ => rfl
  | 6, _ => rfl
  | 7, _ => rfl
  | 8, _ => rfl
  | 9, _ => rfl
  | 10, _ => rfl
  | 11, _ => rfl
  | 12, _ => rfl
  | 13, _ => rfl
  | 14, _ => rfl
  | 15, _ => rfl
  | 16, _ => rfl
  | 17, _ => rfl
  | 18, _ => rfl
  | 19, _ => rfl
  | 20, _ => rfl
  | 21, _ => rfl
  | 22, _ => rfl
  | 23, _ => rfl
  | 24, _ => rfl
  | n + 25, h => absurd h (by omega)
set_option maxHeartbeats 1000000 in
theorem name_any (k : Int) (w : World) : Calls Tryd.prog 13 #[.int .i64 k] w fun e w' => e = .returned (.string (nm k)) ∧ Below w.heap.size w w' := by
  have hi := fun x => is_any k x
  have hB := (Below.refl w.heap.size w).alloc (Nat.le_refl _) (.cells #[.string ⟨#[]⟩, .string ⟨#[105, 114, 113]⟩, .string ⟨#[100, 101, 118]⟩, .string ⟨#[101, 110, 116, 101, 114]⟩, .string ⟨#[101, 120, 105, 116]⟩, .string ⟨#[115, 119, 105, 116, 99, 104]⟩, .string ⟨#[114, 101, 108, 101, 97, 115, 101]⟩, .string ⟨#[108, 97, 116, 101]⟩, .string ⟨#[101, 110, 100]⟩, .string ⟨#[98, 108, 111, 99, 107]⟩, .string ⟨#[119, 97, 107, 101]⟩, .string ⟨#[108, 101, 118, 101, 108]⟩, .string ⟨#[108, 111, 99, 107]⟩, .string ⟨#[117, 110, 108, 111, 99, 107]⟩, .string ⟨#[112, 111, 115, 116]⟩, .string ⟨#[116, 97, 107, 101]⟩, .string ⟨#[115, 101, 110, 100]⟩, .string ⟨#[114, 101, 99, 118]⟩, .string ⟨#[116, 105, 109, 101, 114]⟩, .string ⟨#[97, 114, 109]⟩, .string ⟨#[111, 117, 116]⟩, .string ⟨#[102, 97, 117, 108, 116]⟩, .string ⟨#[104, 97, 108, 116]⟩, .string ⟨#[114, 101, 102, 117, 115, 101]⟩, .string ⟨#[99, 108, 111, 115, 101]⟩] 53)
  cases hk : isK k
  · rw [nm_no hk]
    rw [hk] at hi
    clear hk
    go_enter Tryd.func13, Tryd.ntmps13
    go_upto_region 1 with fail
    refine wp_region_list ?_
    refine wpList_build (by rfl) 53 _ (by rfl) (by kernel_rfl) ?_
    generalize hV : Option.getD (Program.built _ _ _) _ = C
    have hC : C = #[.string ⟨#[]⟩, .string ⟨#[105, 114, 113]⟩, .string ⟨#[100, 101, 118]⟩, .string ⟨#[101, 110, 116, 101, 114]⟩, .string ⟨#[101, 120, 105, 116]⟩, .string ⟨#[115, 119, 105, 116, 99, 104]⟩, .string ⟨#[114, 101, 108, 101, 97, 115, 101]⟩, .string ⟨#[108, 97, 116, 101]⟩, .string ⟨#[101, 110, 100]⟩, .string ⟨#[98, 108, 111, 99, 107]⟩, .string ⟨#[119, 97, 107, 101]⟩, .string ⟨#[108, 101, 118, 101, 108]⟩, .string ⟨#[108, 111, 99, 107]⟩, .string ⟨#[117, 110, 108, 111, 99, 107]⟩, .string ⟨#[112, 111, 115, 116]⟩, .string ⟨#[116, 97, 107, 101]⟩, .string ⟨#[115, 101, 110, 100]⟩, .string ⟨#[114, 101, 99, 118]⟩, .string ⟨#[116, 105, 109, 101, 114]⟩, .string ⟨#[97, 114, 109]⟩, .string ⟨#[111, 117, 116]⟩, .string ⟨#[102, 97, 117, 108, 116]⟩, .string ⟨#[104, 97, 108, 116]⟩, .string ⟨#[114, 101, 102, 117, 115, 101]⟩, .string ⟨#[99, 108, 111, 115, 101]⟩] := by rw [← hV]; kernel_rfl
    clear hV
    subst hC
    refine list_alloc (by rfl) 53 (by rfl) (.agg #[.string ⟨#[]⟩, .string ⟨#[]⟩, .string ⟨#[]⟩, .string ⟨#[]⟩, .string ⟨#[]⟩, .string ⟨#[]⟩, .string ⟨#[]⟩, .string ⟨#[]⟩, .string ⟨#[]⟩, .string ⟨#[]⟩, .string ⟨#[]⟩, .string ⟨#[]⟩, .string ⟨#[]⟩, .string ⟨#[]⟩, .string ⟨#[]⟩, .string ⟨#[]⟩, .string ⟨#[]⟩, .string ⟨#[]⟩, .string ⟨#[]⟩, .string ⟨#[]⟩, .string ⟨#[]⟩, .string ⟨#[]⟩, .string ⟨#[]⟩, .string ⟨#[]⟩, .string ⟨#[]⟩]) (zero_of_info zero_names).1 ?_
    refine wpList_store_row (by rfl) 53 (.tmp 3) (.tmp 4) (by rfl) w.heap.size #[.string ⟨#[]⟩, .string ⟨#[105, 114, 113]⟩, .string ⟨#[100, 101, 118]⟩, .string ⟨#[101, 110, 116, 101, 114]⟩, .string ⟨#[101, 120, 105, 116]⟩, .string ⟨#[115, 119, 105, 116, 99, 104]⟩, .string ⟨#[114, 101, 108, 101, 97, 115, 101]⟩, .string ⟨#[108, 97, 116, 101]⟩, .string ⟨#[101, 110, 100]⟩, .string ⟨#[98, 108, 111, 99, 107]⟩, .string ⟨#[119, 97, 107, 101]⟩, .string ⟨#[108, 101, 118, 101, 108]⟩, .string ⟨#[108, 111, 99, 107]⟩, .string ⟨#[117, 110, 108, 111, 99, 107]⟩, .string ⟨#[112, 111, 115, 116]⟩, .string ⟨#[116, 97, 107, 101]⟩, .string ⟨#[115, 101, 110, 100]⟩, .string ⟨#[114, 101, 99, 118]⟩, .string ⟨#[116, 105, 109, 101, 114]⟩, .string ⟨#[97, 114, 109]⟩, .string ⟨#[111, 117, 116]⟩, .string ⟨#[102, 97, 117, 108, 116]⟩, .string ⟨#[104, 97, 108, 116]⟩, .string ⟨#[114, 101, 102, 117, 115, 101]⟩, .string ⟨#[99, 108, 111, 115, 101]⟩] (by rfl) (by rfl) 53 _ (heap_alloc_new w _) (by kernel_rfl) (by rfl) (by kernel_rfl) ?_
    rw [World.setRow_alloc_new]
    refine wpList_nil ?_
    generalize (Value.agg #[.string ⟨#[]⟩, .string ⟨#[105, 114, 113]⟩, .string ⟨#[100, 101, 118]⟩, .string ⟨#[101, 110, 116, 101, 114]⟩, .string ⟨#[101, 120, 105, 116]⟩, .string ⟨#[115, 119, 105, 116, 99, 104]⟩, .string ⟨#[114, 101, 108, 101, 97, 115, 101]⟩, .string ⟨#[108, 97, 116, 101]⟩, .string ⟨#[101, 110, 100]⟩, .string ⟨#[98, 108, 111, 99, 107]⟩, .string ⟨#[119, 97, 107, 101]⟩, .string ⟨#[108, 101, 118, 101, 108]⟩, .string ⟨#[108, 111, 99, 107]⟩, .string ⟨#[117, 110, 108, 111, 99, 107]⟩, .string ⟨#[112, 111, 115, 116]⟩, .string ⟨#[116, 97, 107, 101]⟩, .string ⟨#[115, 101, 110, 100]⟩, .string ⟨#[114, 101, 99, 118]⟩, .string ⟨#[116, 105, 109, 101, 114]⟩, .string ⟨#[97, 114, 109]⟩, .string ⟨#[111, 117, 116]⟩, .string ⟨#[102, 97, 117, 108, 116]⟩, .string ⟨#[104, 97, 108, 116]⟩, .string ⟨#[114, 101, 102, 117, 115, 101]⟩, .string ⟨#[99, 108, 111, 115, 101]⟩]) = V
    generalize w.alloc (.cells #[.string ⟨#[]⟩, .string ⟨#[105, 114, 113]⟩, .string ⟨#[100, 101, 118]⟩, .string ⟨#[101, 110, 116, 101, 114]⟩, .string ⟨#[101, 120, 105, 116]⟩, .string ⟨#[115, 119, 105, 116, 99, 104]⟩, .string ⟨#[114, 101, 108, 101, 97, 115, 101]⟩, .string ⟨#[108, 97, 116, 101]⟩, .string ⟨#[101, 110, 100]⟩, .string ⟨#[98, 108, 111, 99, 107]⟩, .string ⟨#[119, 97, 107, 101]⟩, .string ⟨#[108, 101, 118, 101, 108]⟩, .string ⟨#[108, 111, 99, 107]⟩, .string ⟨#[117, 110, 108, 111, 99, 107]⟩, .string ⟨#[112, 111, 115, 116]⟩, .string ⟨#[116, 97, 107, 101]⟩, .string ⟨#[115, 101, 110, 100]⟩, .string ⟨#[114, 101, 99, 118]⟩, .string ⟨#[116, 105, 109, 101, 114]⟩, .string ⟨#[97, 114, 109]⟩, .string ⟨#[111, 117, 116]⟩, .string ⟨#[102, 97, 117, 108, 116]⟩, .string ⟨#[104, 97, 108, 116]⟩, .string ⟨#[114, 101, 102, 117, 115, 101]⟩, .string ⟨#[99, 108, 111, 115, 101]⟩] 53) = W at hB ⊢
    go_wp2_with fail
    refine (hi _).mono ?_
    rintro e w1 ⟨rfl, rfl⟩
    go_wp2_with fail
    go_ret
    exact ⟨rfl, hB⟩
  · rw [hk] at hi
    obtain ⟨m, rfl⟩ : ∃ m : Nat, k = m := ⟨k.toNat, by have : 1 ≤ k ∧ k ≤ 24 := by simpa [isK] using hk
                                                       omega⟩
    have h1 : 1 ≤ (m : Int) ∧ (m : Int) ≤ 24 := by simpa [isK] using hk
    have m1 : m < 25 := by omega
    have m2 : (m : Int) < 25 := by omega
    have hcell : (w.alloc (.cells #[.string ⟨#[]⟩, .string ⟨#[105, 114, 113]⟩, .string ⟨#[100, 101, 118]⟩, .string ⟨#[101, 110, 116, 101, 114]⟩, .string ⟨#[101, 120, 105, 116]⟩, .string ⟨#[115, 119, 105, 116, 99, 104]⟩, .string ⟨#[114, 101, 108, 101, 97, 115, 101]⟩, .string ⟨#[108, 97, 116, 101]⟩, .string ⟨#[101, 110, 100]⟩, .string ⟨#[98, 108, 111, 99, 107]⟩, .string ⟨#[119, 97, 107, 101]⟩, .string ⟨#[108, 101, 118, 101, 108]⟩, .string ⟨#[108, 111, 99, 107]⟩, .string ⟨#[117, 110, 108, 111, 99, 107]⟩, .string ⟨#[112, 111, 115, 116]⟩, .string ⟨#[116, 97, 107, 101]⟩, .string ⟨#[115, 101, 110, 100]⟩, .string ⟨#[114, 101, 99, 118]⟩, .string ⟨#[116, 105, 109, 101, 114]⟩, .string ⟨#[97, 114, 109]⟩, .string ⟨#[111, 117, 116]⟩, .string ⟨#[102, 97, 117, 108, 116]⟩, .string ⟨#[104, 97, 108, 116]⟩, .string ⟨#[114, 101, 102, 117, 115, 101]⟩, .string ⟨#[99, 108, 111, 115, 101]⟩] 53)).cell? ⟨w.heap.size, m, none⟩ = some (.string (nm m)) := by
      rw [cell_blk (heap_alloc_new w _), nm_at m m1]
      unfold nm
      rw [if_pos hk]
      simp
    clear h1 hk
    generalize nm (m : Int) = X at hcell ⊢
    go_enter Tryd.func13, Tryd.ntmps13
    go_upto_region 1 with fail
    refine wp_region_list ?_
    refine wpList_build (by rfl) 53 _ (by rfl) (by kernel_rfl) ?_
    generalize hV : Option.getD (Program.built _ _ _) _ = C
    have hC : C = #[.string ⟨#[]⟩, .string ⟨#[105, 114, 113]⟩, .string ⟨#[100, 101, 118]⟩, .string ⟨#[101, 110, 116, 101, 114]⟩, .string ⟨#[101, 120, 105, 116]⟩, .string ⟨#[115, 119, 105, 116, 99, 104]⟩, .string ⟨#[114, 101, 108, 101, 97, 115, 101]⟩, .string ⟨#[108, 97, 116, 101]⟩, .string ⟨#[101, 110, 100]⟩, .string ⟨#[98, 108, 111, 99, 107]⟩, .string ⟨#[119, 97, 107, 101]⟩, .string ⟨#[108, 101, 118, 101, 108]⟩, .string ⟨#[108, 111, 99, 107]⟩, .string ⟨#[117, 110, 108, 111, 99, 107]⟩, .string ⟨#[112, 111, 115, 116]⟩, .string ⟨#[116, 97, 107, 101]⟩, .string ⟨#[115, 101, 110, 100]⟩, .string ⟨#[114, 101, 99, 118]⟩, .string ⟨#[116, 105, 109, 101, 114]⟩, .string ⟨#[97, 114, 109]⟩, .string ⟨#[111, 117, 116]⟩, .string ⟨#[102, 97, 117, 108, 116]⟩, .string ⟨#[104, 97, 108, 116]⟩, .string ⟨#[114, 101, 102, 117, 115, 101]⟩, .string ⟨#[99, 108, 111, 115, 101]⟩] := by rw [← hV]; kernel_rfl
    clear hV
    subst hC
    refine list_alloc (by rfl) 53 (by rfl) (.agg #[.string ⟨#[]⟩, .string ⟨#[]⟩, .string ⟨#[]⟩, .string ⟨#[]⟩, .string ⟨#[]⟩, .string ⟨#[]⟩, .string ⟨#[]⟩, .string ⟨#[]⟩, .string ⟨#[]⟩, .string ⟨#[]⟩, .string ⟨#[]⟩, .string ⟨#[]⟩, .string ⟨#[]⟩, .string ⟨#[]⟩, .string ⟨#[]⟩, .string ⟨#[]⟩, .string ⟨#[]⟩, .string ⟨#[]⟩, .string ⟨#[]⟩, .string ⟨#[]⟩, .string ⟨#[]⟩, .string ⟨#[]⟩, .string ⟨#[]⟩, .string ⟨#[]⟩, .string ⟨#[]⟩]) (zero_of_info zero_names).1 ?_
    refine wpList_store_row (by rfl) 53 (.tmp 3) (.tmp 4) (by rfl) w.heap.size #[.string ⟨#[]⟩, .string ⟨#[105, 114, 113]⟩, .string ⟨#[100, 101, 118]⟩, .string ⟨#[101, 110, 116, 101, 114]⟩, .string ⟨#[101, 120, 105, 116]⟩, .string ⟨#[115, 119, 105, 116, 99, 104]⟩, .string ⟨#[114, 101, 108, 101, 97, 115, 101]⟩, .string ⟨#[108, 97, 116, 101]⟩, .string ⟨#[101, 110, 100]⟩, .string ⟨#[98, 108, 111, 99, 107]⟩, .string ⟨#[119, 97, 107, 101]⟩, .string ⟨#[108, 101, 118, 101, 108]⟩, .string ⟨#[108, 111, 99, 107]⟩, .string ⟨#[117, 110, 108, 111, 99, 107]⟩, .string ⟨#[112, 111, 115, 116]⟩, .string ⟨#[116, 97, 107, 101]⟩, .string ⟨#[115, 101, 110, 100]⟩, .string ⟨#[114, 101, 99, 118]⟩, .string ⟨#[116, 105, 109, 101, 114]⟩, .string ⟨#[97, 114, 109]⟩, .string ⟨#[111, 117, 116]⟩, .string ⟨#[102, 97, 117, 108, 116]⟩, .string ⟨#[104, 97, 108, 116]⟩, .string ⟨#[114, 101, 102, 117, 115, 101]⟩, .string ⟨#[99, 108, 111, 115, 101]⟩] (by rfl) (by rfl) 53 _ (heap_alloc_new w _) (by kernel_rfl) (by rfl) (by kernel_rfl) ?_
    rw [World.setRow_alloc_new]
    refine wpList_nil ?_
    generalize (Value.agg #[.string ⟨#[]⟩, .string ⟨#[105, 114, 113]⟩, .string ⟨#[100, 101, 118]⟩, .string ⟨#[101, 110, 116, 101, 114]⟩, .string ⟨#[101, 120, 105, 116]⟩, .string ⟨#[115, 119, 105, 116, 99, 104]⟩, .string ⟨#[114, 101, 108, 101, 97, 115, 101]⟩, .string ⟨#[108, 97, 116, 101]⟩, .string ⟨#[101, 110, 100]⟩, .string ⟨#[98, 108, 111, 99, 107]⟩, .string ⟨#[119, 97, 107, 101]⟩, .string ⟨#[108, 101, 118, 101, 108]⟩, .string ⟨#[108, 111, 99, 107]⟩, .string ⟨#[117, 110, 108, 111, 99, 107]⟩, .string ⟨#[112, 111, 115, 116]⟩, .string ⟨#[116, 97, 107, 101]⟩, .string ⟨#[115, 101, 110, 100]⟩, .string ⟨#[114, 101, 99, 118]⟩, .string ⟨#[116, 105, 109, 101, 114]⟩, .string ⟨#[97, 114, 109]⟩, .string ⟨#[111, 117, 116]⟩, .string ⟨#[102, 97, 117, 108, 116]⟩, .string ⟨#[104, 97, 108, 116]⟩, .string ⟨#[114, 101, 102, 117, 115, 101]⟩, .string ⟨#[99, 108, 111, 115, 101]⟩]) = V
    generalize w.alloc (.cells #[.string ⟨#[]⟩, .string ⟨#[105, 114, 113]⟩, .string ⟨#[100, 101, 118]⟩, .string ⟨#[101, 110, 116, 101, 114]⟩, .string ⟨#[101, 120, 105, 116]⟩, .string ⟨#[115, 119, 105, 116, 99, 104]⟩, .string ⟨#[114, 101, 108, 101, 97, 115, 101]⟩, .string ⟨#[108, 97, 116, 101]⟩, .string ⟨#[101, 110, 100]⟩, .string ⟨#[98, 108, 111, 99, 107]⟩, .string ⟨#[119, 97, 107, 101]⟩, .string ⟨#[108, 101, 118, 101, 108]⟩, .string ⟨#[108, 111, 99, 107]⟩, .string ⟨#[117, 110, 108, 111, 99, 107]⟩, .string ⟨#[112, 111, 115, 116]⟩, .string ⟨#[116, 97, 107, 101]⟩, .string ⟨#[115, 101, 110, 100]⟩, .string ⟨#[114, 101, 99, 118]⟩, .string ⟨#[116, 105, 109, 101, 114]⟩, .string ⟨#[97, 114, 109]⟩, .string ⟨#[111, 117, 116]⟩, .string ⟨#[102, 97, 117, 108, 116]⟩, .string ⟨#[104, 97, 108, 116]⟩, .string ⟨#[114, 101, 102, 117, 115, 101]⟩, .string ⟨#[99, 108, 111, 115, 101]⟩] 53) = W at hcell hB ⊢
    generalize w.heap.size = g at hcell ⊢
    go_wp2_with fail
    refine (hi _).mono ?_
    rintro e w1 ⟨rfl, rfl⟩
    go_wp2_with fail
    go_ret
    exact ⟨rfl, hB⟩
end Go.Proofs.YtokjkfbbejalhaaDoor
