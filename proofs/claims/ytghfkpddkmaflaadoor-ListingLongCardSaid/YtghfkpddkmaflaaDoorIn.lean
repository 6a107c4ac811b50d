/- Contract of isa.Name. No condition but those that each names. -/
import Derived.Test.YtghfkpddkmaflaaDoorProg
import Derived.Test.YtghfkpddkmaflaaDoorCore
import Derived.Test.YtghfkpddkmaflaaDoorIa
import Derived.Deep.WholeRow
import Derived.Deep.DeepCutAuto
namespace Go.Proofs.YtghfkpddkmaflaaDoor
open Go.RowKit
set_option maxRecDepth 20000
section
variable {P : Program} {w : World} {ops : Array Oper} {o : Oper} {a : Act} {Q : Exit → Act → World → Prop}
theorem list_alloc {rest : List Oper} (hg : o.guard = none) (t : TypeId) (ho : o.op = .alloc t) (z : Value) (hz : ∀ w, (zeroValue t).run P w = .ok z w)
    (hK : wpList P ops Q rest (a.put o.dst (.pointer (some ⟨w.heap.size, 0, none⟩))) (w.alloc (.cells z.cells t))) : wpList P ops Q (o :: rest) a w := by
  refine wpList_plain hg fun K hK' => ?_
  unfold Oper.wp
  simp [execOp, ho, hz, Result.andThen, go_sem]
  exact hK' _ _ hK
end
theorem zero_names : (Tryd.prog.info? 88).map (fun i => (i.zero, i.size)) = some (some (.agg #[.string ⟨#[]⟩, .string ⟨#[]⟩, .string ⟨#[]⟩, .string ⟨#[]⟩, .string ⟨#[]⟩, .string ⟨#[]⟩, .string ⟨#[]⟩, .string ⟨#[]⟩, .string ⟨#[]⟩, .string ⟨#[]⟩, .string ⟨#[]⟩, .string ⟨#[]⟩, .string ⟨#[]⟩, .string ⟨#[]⟩, .string ⟨#[]⟩, .string ⟨#[]⟩, .string ⟨#[]⟩, .string ⟨#[]⟩, .string ⟨#[]⟩, .string ⟨#[]⟩, .string ⟨#[]⟩, .string ⟨#[]⟩, .string ⟨#[]⟩, .string ⟨#[]⟩, .string ⟨#[]⟩, .string ⟨#[]⟩, .string ⟨#[]⟩, .string ⟨#[]⟩, .string ⟨#[]⟩, .string ⟨#[]⟩, .string ⟨#[]⟩, .string ⟨#[]⟩, .string ⟨#[]⟩, .string ⟨#[]⟩, .string ⟨#[]⟩, .string ⟨#[]⟩, .string ⟨#[]⟩, .string ⟨#[]⟩, .string ⟨#[]⟩]), 39) := by kernel_rfl
theorem inm_at : ∀ i, i < 39 → (#[.string ⟨#[]⟩, .string ⟨#[115, 101, 116]⟩, .string ⟨#[109, 111, 118]⟩, .string ⟨#[97, 100, 100]⟩, .string ⟨#[115, 117, 98]⟩, .string ⟨#[109, 117, 108]⟩, .string ⟨#[100, 105, 118]⟩, .string ⟨#[109, 111, 100]⟩, .string ⟨#[97, 110, 100]⟩, .string ⟨#[111, 114]⟩, .string ⟨#[120, 111, 114]⟩, .string ⟨#[115, 104, 108]⟩, .string ⟨#[115, 104, 114]⟩, .string ⟨#[108, 116]⟩, .string ⟨#[101, 113]⟩, .string ⟨#[108, 111, 97, 100]⟩, .string ⟨#[115, 116, 111, 114, 101]⟩, .string ⟨#[106, 109, 112]⟩, .string ⟨#[106, 122]⟩, .string ⟨#[106, 110, 122]⟩, .string ⟨#[119, 111, 114, 107]⟩, .string ⟨#[105, 110]⟩, .string ⟨#[111, 117, 116]⟩, .string ⟨#[109, 97, 115, 107]⟩, .string ⟨#[115, 101, 108, 102]⟩, .string ⟨#[110, 111, 119]⟩, .string ⟨#[112, 111, 115, 116]⟩, .string ⟨#[115, 101, 110, 100]⟩, .string ⟨#[114, 101, 99, 118]⟩, .string ⟨#[97, 114, 109]⟩, .string ⟨#[100, 105, 115, 97, 114, 109]⟩, .string ⟨#[108, 111, 99, 107]⟩, .string ⟨#[117, 110, 108, 111, 99, 107]⟩, .string ⟨#[119, 97, 105, 116]⟩, .string ⟨#[115, 108, 101, 101, 112]⟩, .string ⟨#[121, 105, 101, 108, 100]⟩, .string ⟨#[110, 101, 120, 116]⟩, .string ⟨#[104, 97, 108, 116]⟩, .string ⟨#[105, 114, 101, 116]⟩] : Array Value)[i]? = some (.string (inL.getD i ⟨#[]⟩))
  | 0, _ => rfl
  | 1, _ => rfl
  | 2, _ => rfl
  | 3, _ => rfl
  | 4, _ => rfl
  | 5, _ => rfl
  | 6, _ => rfl
  | 7, _ => rfl
  | 8, _ => rfl
  | 9, _ => rfl
  | 10, _ => rfl
  | 11, _ => rfl
  | 12, _ => rfl
  | 13, _ => rfl
  | 14, _ => rfl
  | 15, _ => rfl
  | 16, _ => rfl
  | 17, _ => rfl
  | 18, _ => rfl
  | 19, _ => rfl
  | 20, _ => rfl
  | 21, _ => rfl
  | 22, _ => rfl
  | 23, _ => rfl
  | 24, _ => rfl
  | 25, _ => rfl
  | 26, _ => rfl
  | 27, _ => rfl
  | 28, _ => rfl
  | 29, _ => rfl
  | 30, _ => rfl
  | 31, _ => rfl
  | 32, _ => rfl
  | 33, _ => rfl
  | 34, _ => rfl
  | 35, _ => rfl
  | 36, _ => rfl
  | 37, _ => rfl
  | 38, _ => rfl
  | n + 39, h => absurd h (by omega)
set_option maxHeartbeats 1000000 in
theorem iname_any (k : Int) (w : World) : Calls Tryd.prog 22 #[.int .i64 k] w fun e w' => e = .returned (.string (inm k)) ∧ Below w.heap.size w w' := by
  have hi := fun x => iis_any k x
  have hB := (Below.refl w.heap.size w).alloc (Nat.le_refl _) (.cells #[.string ⟨#[]⟩, .string ⟨#[115, 101, 116]⟩, .string ⟨#[109, 111, 118]⟩, .string ⟨#[97, 100, 100]⟩, .string ⟨#[115, 117, 98]⟩, .string ⟨#[109, 117, 108]⟩, .string ⟨#[100, 105, 118]⟩, .string ⟨#[109, 111, 100]⟩, .string ⟨#[97, 110, 100]⟩, .string ⟨#[111, 114]⟩, .string ⟨#[120, 111, 114]⟩, .string ⟨#[115, 104, 108]⟩, .string ⟨#[115, 104, 114]⟩, .string ⟨#[108, 116]⟩, .string ⟨#[101, 113]⟩, .string ⟨#[108, 111, 97, 100]⟩, .string ⟨#[115, 116, 111, 114, 101]⟩, .string ⟨#[106, 109, 112]⟩, .string ⟨#[106, 122]⟩, .string ⟨#[106, 110, 122]⟩, .string ⟨#[119, 111, 114, 107]⟩, .string ⟨#[105, 110]⟩, .string ⟨#[111, 117, 116]⟩, .string ⟨#[109, 97, 115, 107]⟩, .string ⟨#[115, 101, 108, 102]⟩, .string ⟨#[110, 111, 119]⟩, .string ⟨#[112, 111, 115, 116]⟩, .string ⟨#[115, 101, 110, 100]⟩, .string ⟨#[114, 101, 99, 118]⟩, .string ⟨#[97, 114, 109]⟩, .string ⟨#[100, 105, 115, 97, 114, 109]⟩, .string ⟨#[108, 111, 99, 107]⟩, .string ⟨#[117, 110, 108, 111, 99, 107]⟩, .string ⟨#[119, 97, 105, 116]⟩, .string ⟨#[115, 108, 101, 101, 112]⟩, .string ⟨#[121, 105, 101, 108, 100]⟩, .string ⟨#[110, 101, 120, 116]⟩, .string ⟨#[104, 97, 108, 116]⟩, .string ⟨#[105, 114, 101, 116]⟩] 88)
  cases hk : isI k
  · rw [inm_no hk]
    rw [hk] at hi
    clear hk
    go_enter Tryd.func22, Tryd.ntmps22
    go_upto_region 1 with fail
    refine wp_region_list ?_
    refine wpList_build (by rfl) 88 _ (by rfl) (by kernel_rfl) ?_
    generalize hV : Option.getD (Program.built _ _ _) _ = C
    have hC : C = #[.string ⟨#[]⟩, .string ⟨#[115, 101, 116]⟩, .string ⟨#[109, 111, 118]⟩, .string ⟨#[97, 100, 100]⟩, .string ⟨#[115, 117, 98]⟩, .string ⟨#[109, 117, 108]⟩, .string ⟨#[100, 105, 118]⟩, .string ⟨#[109, 111, 100]⟩, .string ⟨#[97, 110, 100]⟩, .string ⟨#[111, 114]⟩, .string ⟨#[120, 111, 114]⟩, .string ⟨#[115, 104, 108]⟩, .string ⟨#[115, 104, 114]⟩, .string ⟨#[108, 116]⟩, .string ⟨#[101, 113]⟩, .string ⟨#[108, 111, 97, 100]⟩, .string ⟨#[115, 116, 111, 114, 101]⟩, .string ⟨#[106, 109, 112]⟩, .string ⟨#[106, 122]⟩, .string ⟨#[106, 110, 122]⟩, .string ⟨#[119, 111, 114, 107]⟩, .string ⟨#[105, 110]⟩, .string ⟨#[111, 117, 116]⟩, .string ⟨#[109, 97, 115, 107]⟩, .string ⟨#[115, 101, 108, 102]⟩, .string ⟨#[110, 111, 119]⟩, .string ⟨#[112, 111, 115, 116]⟩, .string ⟨#[115, 101, 110, 100]⟩, .string ⟨#[114, 101, 99, 118]⟩, .string ⟨#[97, 114, 109]⟩, .string ⟨#[100, 105, 115, 97, 114, 109]⟩, .string ⟨#[108, 111, 99, 107]⟩, .string ⟨#[117, 110, 108, 111, 99, 107]⟩, .string ⟨#[119, 97, 105, 116]⟩, .string ⟨#[115, 108, 101, 101, 112]⟩, .string ⟨#[121, 105, 101, 108, 100]⟩, .string ⟨#[110, 101, 120, 116]⟩, .string ⟨#[104, 97, 108, 116]⟩, .string ⟨#[105, 114, 101, 116]⟩] := by rw [← hV]; kernel_rfl
    clear hV
    subst hC
    refine list_alloc (by rfl) 88 (by rfl) (.agg #[.string ⟨#[]⟩, .string ⟨#[]⟩, .string ⟨#[]⟩, .string ⟨#[]⟩, .string ⟨#[]⟩, .string ⟨#[]⟩, .string ⟨#[]⟩, .string ⟨#[]⟩, .string ⟨#[]⟩, .string ⟨#[]⟩, .string ⟨#[]⟩, .string ⟨#[]⟩, .string ⟨#[]⟩, .string ⟨#[]⟩, .string ⟨#[]⟩, .string ⟨#[]⟩, .string ⟨#[]⟩, .string ⟨#[]⟩, .string ⟨#[]⟩, .string ⟨#[]⟩, .string ⟨#[]⟩, .string ⟨#[]⟩, .string ⟨#[]⟩, .string ⟨#[]⟩, .string ⟨#[]⟩, .string ⟨#[]⟩, .string ⟨#[]⟩, .string ⟨#[]⟩, .string ⟨#[]⟩, .string ⟨#[]⟩, .string ⟨#[]⟩, .string ⟨#[]⟩, .string ⟨#[]⟩, .string ⟨#[]⟩, .string ⟨#[]⟩, .string ⟨#[]⟩, .string ⟨#[]⟩, .string ⟨#[]⟩, .string ⟨#[]⟩]) (zero_of_info zero_names).1 ?_
    refine wpList_store_row (by rfl) 88 (.tmp 3) (.tmp 4) (by rfl) w.heap.size #[.string ⟨#[]⟩, .string ⟨#[115, 101, 116]⟩, .string ⟨#[109, 111, 118]⟩, .string ⟨#[97, 100, 100]⟩, .string ⟨#[115, 117, 98]⟩, .string ⟨#[109, 117, 108]⟩, .string ⟨#[100, 105, 118]⟩, .string ⟨#[109, 111, 100]⟩, .string ⟨#[97, 110, 100]⟩, .string ⟨#[111, 114]⟩, .string ⟨#[120, 111, 114]⟩, .string ⟨#[115, 104, 108]⟩, .string ⟨#[115, 104, 114]⟩, .string ⟨#[108, 116]⟩, .string ⟨#[101, 113]⟩, .string ⟨#[108, 111, 97, 100]⟩, .string ⟨#[115, 116, 111, 114, 101]⟩, .string ⟨#[106, 109, 112]⟩, .string ⟨#[106, 122]⟩, .string ⟨#[106, 110, 122]⟩, .string ⟨#[119, 111, 114, 107]⟩, .string ⟨#[105, 110]⟩, .string ⟨#[111, 117, 116]⟩, .string ⟨#[109, 97, 115, 107]⟩, .string ⟨#[115, 101, 108, 102]⟩, .string ⟨#[110, 111, 119]⟩, .string ⟨#[112, 111, 115, 116]⟩, .string ⟨#[115, 101, 110, 100]⟩, .string ⟨#[114, 101, 99, 118]⟩, .string ⟨#[97, 114, 109]⟩, .string ⟨#[100, 105, 115, 97, 114, 109]⟩, .string ⟨#[108, 111, 99, 107]⟩, .string ⟨#[117, 110, 108, 111, 99, 107]⟩, .string ⟨#[119, 97, 105, 116]⟩, .string ⟨#[115, 108, 101, 101, 112]⟩, .string ⟨#[121, 105, 101, 108, 100]⟩, .string ⟨#[110, 101, 120, 116]⟩, .string ⟨#[104, 97, 108, 116]⟩, .string ⟨#[105, 114, 101, 116]⟩] (by rfl) (by rfl) 88 _ (heap_alloc_new w _) (by kernel_rfl) (by rfl) (by kernel_rfl) ?_
    rw [World.setRow_alloc_new]
    refine wpList_nil ?_
    generalize (Value.agg #[.string ⟨#[]⟩, .string ⟨#[115, 101, 116]⟩, .string ⟨#[109, 111, 118]⟩, .string ⟨#[97, 100, 100]⟩, .string ⟨#[115, 117, 98]⟩, .string ⟨#[109, 117, 108]⟩, .string ⟨#[100, 105, 118]⟩, .string ⟨#[109, 111, 100]⟩, .string ⟨#[97, 110, 100]⟩, .string ⟨#[111, 114]⟩, .string ⟨#[120, 111, 114]⟩, .string ⟨#[115, 104, 108]⟩, .string ⟨#[115, 104, 114]⟩, .string ⟨#[108, 116]⟩, .string ⟨#[101, 113]⟩, .string ⟨#[108, 111, 97, 100]⟩, .string ⟨#[115, 116, 111, 114, 101]⟩, .string ⟨#[106, 109, 112]⟩, .string ⟨#[106, 122]⟩, .string ⟨#[106, 110, 122]⟩, .string ⟨#[119, 111, 114, 107]⟩, .string ⟨#[105, 110]⟩, .string ⟨#[111, 117, 116]⟩, .string ⟨#[109, 97, 115, 107]⟩, .string ⟨#[115, 101, 108, 102]⟩, .string ⟨#[110, 111, 119]⟩, .string ⟨#[112, 111, 115, 116]⟩, .string ⟨#[115, 101, 110, 100]⟩, .string ⟨#[114, 101, 99, 118]⟩, .string ⟨#[97, 114, 109]⟩, .string ⟨#[100, 105, 115, 97, 114, 109]⟩, .string ⟨#[108, 111, 99, 107]⟩, .string ⟨#[117, 110, 108, 111, 99, 107]⟩, .string ⟨#[119, 97, 105, 116]⟩, .string ⟨#[115, 108, 101, 101, 112]⟩, .string ⟨#[121, 105, 101, 108, 100]⟩, .string ⟨#[110, 101, 120, 116]⟩, .string ⟨#[104, 97, 108, 116]⟩, .string ⟨#[105, 114, 101, 116]⟩]) = V
    generalize w.alloc (.cells #[.string ⟨#[]⟩, .string ⟨#[115, 101, 116]⟩, .string ⟨#[109, 111, 118]⟩, .string ⟨#[97, 100, 100]⟩, .string ⟨#[115, 117, 98]⟩, .string ⟨#[109, 117, 108]⟩, .string ⟨#[100, 105, 118]⟩, .string ⟨#[109, 111, 100]⟩, .string ⟨#[97, 110, 100]⟩, .string ⟨#[111, 114]⟩, .string ⟨#[120, 111, 114]⟩, .string ⟨#[115, 104, 108]⟩, .string ⟨#[115, 104, 114]⟩, .string ⟨#[108, 116]⟩, .string ⟨#[101, 113]⟩, .string ⟨#[108, 111, 97, 100]⟩, .string ⟨#[115, 116, 111, 114, 101]⟩, .string ⟨#[106, 109, 112]⟩, .string ⟨#[106, 122]⟩, .string ⟨#[106, 110, 122]⟩, .string ⟨#[119, 111, 114, 107]⟩, .string ⟨#[105, 110]⟩, .string ⟨#[111, 117, 116]⟩, .string ⟨#[109, 97, 115, 107]⟩, .string ⟨#[115, 101, 108, 102]⟩, .string ⟨#[110, 111, 119]⟩, .string ⟨#[112, 111, 115, 116]⟩, .string ⟨#[115, 101, 110, 100]⟩, .string ⟨#[114, 101, 99, 118]⟩, .string ⟨#[97, 114, 109]⟩, .string ⟨#[100, 105, 115, 97, 114, 109]⟩, .string ⟨#[108, 111, 99, 107]⟩, .string ⟨#[117, 110, 108, 111, 99, 107]⟩, .string ⟨#[119, 97, 105, 116]⟩, .string ⟨#[115, 108, 101, 101, 112]⟩, .string ⟨#[121, 105, 101, 108, 100]⟩, .string ⟨#[110, 101, 120, 116]⟩, .string ⟨#[104, 97, 108, 116]⟩, .string ⟨#[105, 114, 101, 116]⟩] 88) = W at hB ⊢
    go_wp2_with fail
    refine (hi _).mono ?_
    rintro e w1 ⟨rfl, rfl⟩
    go_wp2_with fail
    go_ret
    exact ⟨rfl, hB⟩
  · rw [hk] at hi
    obtain ⟨m, rfl⟩ : ∃ m : Nat, k = m := ⟨k.toNat, by have : 1 ≤ k ∧ k ≤ 38 := by simpa [isI] using hk
                                                       omega⟩
    have h1 : 1 ≤ (m : Int) ∧ (m : Int) ≤ 38 := by simpa [isI] using hk
    have m1 : m < 39 := by omega
    have m2 : (m : Int) < 39 := by omega
    have hcell : (w.alloc (.cells #[.string ⟨#[]⟩, .string ⟨#[115, 101, 116]⟩, .string ⟨#[109, 111, 118]⟩, .string ⟨#[97, 100, 100]⟩, .string ⟨#[115, 117, 98]⟩, .string ⟨#[109, 117, 108]⟩, .string ⟨#[100, 105, 118]⟩, .string ⟨#[109, 111, 100]⟩, .string ⟨#[97, 110, 100]⟩, .string ⟨#[111, 114]⟩, .string ⟨#[120, 111, 114]⟩, .string ⟨#[115, 104, 108]⟩, .string ⟨#[115, 104, 114]⟩, .string ⟨#[108, 116]⟩, .string ⟨#[101, 113]⟩, .string ⟨#[108, 111, 97, 100]⟩, .string ⟨#[115, 116, 111, 114, 101]⟩, .string ⟨#[106, 109, 112]⟩, .string ⟨#[106, 122]⟩, .string ⟨#[106, 110, 122]⟩, .string ⟨#[119, 111, 114, 107]⟩, .string ⟨#[105, 110]⟩, .string ⟨#[111, 117, 116]⟩, .string ⟨#[109, 97, 115, 107]⟩, .string ⟨#[115, 101, 108, 102]⟩, .string ⟨#[110, 111, 119]⟩, .string ⟨#[112, 111, 115, 116]⟩, .string ⟨#[115, 101, 110, 100]⟩, .string ⟨#[114, 101, 99, 118]⟩, .string ⟨#[97, 114, 109]⟩, .string ⟨#[100, 105, 115, 97, 114, 109]⟩, .string ⟨#[108, 111, 99, 107]⟩, .string ⟨#[117, 110, 108, 111, 99, 107]⟩, .string ⟨#[119, 97, 105, 116]⟩, .string ⟨#[115, 108, 101, 101, 112]⟩, .string ⟨#[121, 105, 101, 108, 100]⟩, .string ⟨#[110, 101, 120, 116]⟩, .string ⟨#[104, 97, 108, 116]⟩, .string ⟨#[105, 114, 101, 116]⟩] 88)).cell? ⟨w.heap.size, m, none⟩ = some (.string (inm m)) := by
      rw [cell_blk (heap_alloc_new w _), inm_at m m1]
      unfold inm
      rw [if_pos hk]
      simp
    clear h1 hk
    generalize inm (m : Int) = X at hcell ⊢
    go_enter Tryd.func22, Tryd.ntmps22
    go_upto_region 1 with fail
    refine wp_region_list ?_
    refine wpList_build (by rfl) 88 _ (by rfl) (by kernel_rfl) ?_
    generalize hV : Option.getD (Program.built _ _ _) _ = C
    have hC : C = #[.string ⟨#[]⟩, .string ⟨#[115, 101, 116]⟩, .string ⟨#[109, 111, 118]⟩, .string ⟨#[97, 100, 100]⟩, .string ⟨#[115, 117, 98]⟩, .string ⟨#[109, 117, 108]⟩, .string ⟨#[100, 105, 118]⟩, .string ⟨#[109, 111, 100]⟩, .string ⟨#[97, 110, 100]⟩, .string ⟨#[111, 114]⟩, .string ⟨#[120, 111, 114]⟩, .string ⟨#[115, 104, 108]⟩, .string ⟨#[115, 104, 114]⟩, .string ⟨#[108, 116]⟩, .string ⟨#[101, 113]⟩, .string ⟨#[108, 111, 97, 100]⟩, .string ⟨#[115, 116, 111, 114, 101]⟩, .string ⟨#[106, 109, 112]⟩, .string ⟨#[106, 122]⟩, .string ⟨#[106, 110, 122]⟩, .string ⟨#[119, 111, 114, 107]⟩, .string ⟨#[105, 110]⟩, .string ⟨#[111, 117, 116]⟩, .string ⟨#[109, 97, 115, 107]⟩, .string ⟨#[115, 101, 108, 102]⟩, .string ⟨#[110, 111, 119]⟩, .string ⟨#[112, 111, 115, 116]⟩, .string ⟨#[115, 101, 110, 100]⟩, .string ⟨#[114, 101, 99, 118]⟩, .string ⟨#[97, 114, 109]⟩, .string ⟨#[100, 105, 115, 97, 114, 109]⟩, .string ⟨#[108, 111, 99, 107]⟩, .string ⟨#[117, 110, 108, 111, 99, 107]⟩, .string ⟨#[119, 97, 105, 116]⟩, .string ⟨#[115, 108, 101, 101, 112]⟩, .string ⟨#[121, 105, 101, 108, 100]⟩, .string ⟨#[110, 101, 120, 116]⟩, .string ⟨#[104, 97, 108, 116]⟩, .string ⟨#[105, 114, 101, 116]⟩] := by rw [← hV]; kernel_rfl
    clear hV
    subst hC
    refine list_alloc (by rfl) 88 (by rfl) (.agg #[.string ⟨#[]⟩, .string ⟨#[]⟩, .string ⟨#[]⟩, .string ⟨#[]⟩, .string ⟨#[]⟩, .string ⟨#[]⟩, .string ⟨#[]⟩, .string ⟨#[]⟩, .string ⟨#[]⟩, .string ⟨#[]⟩, .string ⟨#[]⟩, .string ⟨#[]⟩, .string ⟨#[]⟩, .string ⟨#[]⟩, .string ⟨#[]⟩, .string ⟨#[]⟩, .string ⟨#[]⟩, .string ⟨#[]⟩, .string ⟨#[]⟩, .string ⟨#[]⟩, .string ⟨#[]⟩, .string ⟨#[]⟩, .string ⟨#[]⟩, .string ⟨#[]⟩, .string ⟨#[]⟩, .string ⟨#[]⟩, .string ⟨#[]⟩, .string ⟨#[]⟩, .string ⟨#[]⟩, .string ⟨#[]⟩, .string ⟨#[]⟩, .string ⟨#[]⟩, .string ⟨#[]⟩, .string ⟨#[]⟩, .string ⟨#[]⟩, .string ⟨#[]⟩, .string ⟨#[]⟩, .string ⟨#[]⟩, .string ⟨#[]⟩]) (zero_of_info zero_names).1 ?_
    refine wpList_store_row (by rfl) 88 (.tmp 3) (.tmp 4) (by rfl) w.heap.size #[.string ⟨#[]⟩, .string ⟨#[115, 101, 116]⟩, .string ⟨#[109, 111, 118]⟩, .string ⟨#[97, 100, 100]⟩, .string ⟨#[115, 117, 98]⟩, .string ⟨#[109, 117, 108]⟩, .string ⟨#[100, 105, 118]⟩, .string ⟨#[109, 111, 100]⟩, .string ⟨#[97, 110, 100]⟩, .string ⟨#[111, 114]⟩, .string ⟨#[120, 111, 114]⟩, .string ⟨#[115, 104, 108]⟩, .string ⟨#[115, 104, 114]⟩, .string ⟨#[108, 116]⟩, .string ⟨#[101, 113]⟩, .string ⟨#[108, 111, 97, 100]⟩, .string ⟨#[115, 116, 111, 114, 101]⟩, .string ⟨#[106, 109, 112]⟩, .string ⟨#[106, 122]⟩, .string ⟨#[106, 110, 122]⟩, .string ⟨#[119, 111, 114, 107]⟩, .string ⟨#[105, 110]⟩, .string ⟨#[111, 117, 116]⟩, .string ⟨#[109, 97, 115, 107]⟩, .string ⟨#[115, 101, 108, 102]⟩, .string ⟨#[110, 111, 119]⟩, .string ⟨#[112, 111, 115, 116]⟩, .string ⟨#[115, 101, 110, 100]⟩, .string ⟨#[114, 101, 99, 118]⟩, .string ⟨#[97, 114, 109]⟩, .string ⟨#[100, 105, 115, 97, 114, 109]⟩, .string ⟨#[108, 111, 99, 107]⟩, .string ⟨#[117, 110, 108, 111, 99, 107]⟩, .string ⟨#[119, 97, 105, 116]⟩, .string ⟨#[115, 108, 101, 101, 112]⟩, .string ⟨#[121, 105, 101, 108, 100]⟩, .string ⟨#[110, 101, 120, 116]⟩, .string ⟨#[104, 97, 108, 116]⟩, .string ⟨#[105, 114, 101, 116]⟩] (by rfl) (by rfl) 88 _ (heap_alloc_new w _) (by kernel_rfl) (by rfl) (by kernel_rfl) ?_
    rw [World.setRow_alloc_new]
    refine wpList_nil ?_
    generalize (Value.agg #[.string ⟨#[]⟩, .string ⟨#[115, 101, 116]⟩, .string ⟨#[109, 111, 118]⟩, .string ⟨#[97, 100, 100]⟩, .string ⟨#[115, 117, 98]⟩, .string ⟨#[109, 117, 108]⟩, .string ⟨#[100, 105, 118]⟩, .string ⟨#[109, 111, 100]⟩, .string ⟨#[97, 110, 100]⟩, .string ⟨#[111, 114]⟩, .string ⟨#[120, 111, 114]⟩, .string ⟨#[115, 104, 108]⟩, .string ⟨#[115, 104, 114]⟩, .string ⟨#[108, 116]⟩, .string ⟨#[101, 113]⟩, .string ⟨#[108, 111, 97, 100]⟩, .string ⟨#[115, 116, 111, 114, 101]⟩, .string ⟨#[106, 109, 112]⟩, .string ⟨#[106, 122]⟩, .string ⟨#[106, 110, 122]⟩, .string ⟨#[119, 111, 114, 107]⟩, .string ⟨#[105, 110]⟩, .string ⟨#[111, 117, 116]⟩, .string ⟨#[109, 97, 115, 107]⟩, .string ⟨#[115, 101, 108, 102]⟩, .string ⟨#[110, 111, 119]⟩, .string ⟨#[112, 111, 115, 116]⟩, .string ⟨#[115, 101, 110, 100]⟩, .string ⟨#[114, 101, 99, 118]⟩, .string ⟨#[97, 114, 109]⟩, .string ⟨#[100, 105, 115, 97, 114, 109]⟩, .string ⟨#[108, 111, 99, 107]⟩, .string ⟨#[117, 110, 108, 111, 99, 107]⟩, .string ⟨#[119, 97, 105, 116]⟩, .string ⟨#[115, 108, 101, 101, 112]⟩, .string ⟨#[121, 105, 101, 108, 100]⟩, .string ⟨#[110, 101, 120, 116]⟩, .string ⟨#[104, 97, 108, 116]⟩, .string ⟨#[105, 114, 101, 116]⟩]) = V
    generalize w.alloc (.cells #[.string ⟨#[]⟩, .string ⟨#[115, 101, 116]⟩, .string ⟨#[109, 111, 118]⟩, .string ⟨#[97, 100, 100]⟩, .string ⟨#[115, 117, 98]⟩, .string ⟨#[109, 117, 108]⟩, .string ⟨#[100, 105, 118]⟩, .string ⟨#[109, 111, 100]⟩, .string ⟨#[97, 110, 100]⟩, .string ⟨#[111, 114]⟩, .string ⟨#[120, 111, 114]⟩, .string ⟨#[115, 104, 108]⟩, .string ⟨#[115, 104, 114]⟩, .string ⟨#[108, 116]⟩, .string ⟨#[101, 113]⟩, .string ⟨#[108, 111, 97, 100]⟩, .string ⟨#[115, 116, 111, 114, 101]⟩, .string ⟨#[106, 109, 112]⟩, .string ⟨#[106, 122]⟩, .string ⟨#[106, 110, 122]⟩, .string ⟨#[119, 111, 114, 107]⟩, .string ⟨#[105, 110]⟩, .string ⟨#[111, 117, 116]⟩, .string ⟨#[109, 97, 115, 107]⟩, .string ⟨#[115, 101, 108, 102]⟩, .string ⟨#[110, 111, 119]⟩, .string ⟨#[112, 111, 115, 116]⟩, .string ⟨#[115, 101, 110, 100]⟩, .string ⟨#[114, 101, 99, 118]⟩, .string ⟨#[97, 114, 109]⟩, .string ⟨#[100, 105, 115, 97, 114, 109]⟩, .string ⟨#[108, 111, 99, 107]⟩, .string ⟨#[117, 110, 108, 111, 99, 107]⟩, .string ⟨#[119, 97, 105, 116]⟩, .string ⟨#[115, 108, 101, 101, 112]⟩, .string ⟨#[121, 105, 101, 108, 100]⟩, .string ⟨#[110, 101, 120, 116]⟩, .string ⟨#[104, 97, 108, 116]⟩, .string ⟨#[105, 114, 101, 116]⟩] 88) = W at hcell hB ⊢
    generalize w.heap.size = g at hcell ⊢
    go_wp2_with fail
    refine (hi _).mono ?_
    rintro e w1 ⟨rfl, rfl⟩
    go_wp2_with fail
    go_ret
    exact ⟨rfl, hB⟩
end Go.Proofs.YtghfkpddkmaflaaDoor
