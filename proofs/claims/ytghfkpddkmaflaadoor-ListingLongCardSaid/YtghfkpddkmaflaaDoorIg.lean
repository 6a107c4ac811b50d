/- Contracts of listing.register, listing.modes; rows of words that the code owns, one more word. No condition but those that each names. -/
import Derived.Test.YtghfkpddkmaflaaDoorIf
namespace Go.Proofs.YtghfkpddkmaflaaDoor
open Go Go.RowKit
set_option linter.unusedVariables false
set_option linter.unusedSimpArgs false
set_option maxRecDepth 20000
/-- A register's word, as a text. -/
def RB (n : Int) : ByteArray := ⟨(rgL n).toArray⟩
theorem RB_eq (n : Nat) : (⟨#[114]⟩ : ByteArray) ++ ⟨(Lib.decDigits n).toArray⟩ = RB (n : Int) := by
  apply ByteArray.ext
  apply Array.toList_inj.1
  rw [ByteArray.data_append, Array.toList_append]
  rfl
theorem lreg_any (n : Nat) (h : n < 100) (w : World) : Calls Tryd.prog 23 #[.int .i64 n] w fun e w' => e = .returned (.string (RB (n : Int))) ∧ w = w' := by
  have hm := fun x => Tryd.strconv_Itoa_small n h x
  have he := RB_eq n
  have hz : (⟨(Lib.decDigits n).toArray⟩ : ByteArray).size ≤ 20 := DB_size n (by unfold FOk; omega)
  generalize (⟨(Lib.decDigits n).toArray⟩ : ByteArray) = D at hm he hz
  have hz1 : ¬ 9223372036854775807 < (⟨#[114]⟩ : ByteArray).size + D.size := by
    show ¬ 9223372036854775807 < 1 + D.size
    omega
  have HE := Lib.hid he
  clear he h
  go_enter Tryd.func23, Tryd.ntmps23
  go_wp2_with fail
  refine (hm _).mono ?_
  rintro e w1 ⟨rfl, rfl⟩
  go_wp2_with fail
  go_ret
  exact ⟨by rw [HE.out]; rfl, rfl⟩
theorem lreg_z (n : Int) (h0 : 0 ≤ n) (h : n < 100) (w : World) : Calls Tryd.prog 23 #[.int .i64 n] w fun e w' => e = .returned (.string (RB n)) ∧ w = w' := by
  obtain ⟨m, rfl⟩ : ∃ m : Nat, n = m := ⟨n.toNat, by omega⟩
  exact lreg_any m (by omega) w
/-- The modes' names. -/
def mdV : Value := .agg #[.string ⟨#[119, 97, 105, 116]⟩, .string ⟨#[116, 114, 121]⟩, .string ⟨#[116, 105, 109, 101, 100]⟩]
theorem lmodes_any (w : World) : Calls Tryd.prog 24 #[] w fun e w' => e = .returned mdV ∧ Below w.heap.size w w' := by
  go_enter Tryd.func24, Tryd.ntmps24
  go_wp2_with fail
  have hB := (Below.refl w.heap.size w).alloc (Nat.le_refl _) (.cells #[.string ⟨#[119, 97, 105, 116]⟩, .string ⟨#[116, 114, 121]⟩, .string ⟨#[116, 105, 109, 101, 100]⟩] 55)
  refine bodyPost_ret (v := mdV) ?_ rfl ⟨rfl, hB⟩
  simp [results, Tryd.results24, go_sem, mdV]
theorem src_one (w : World) (x : List UInt8) : Src (w.alloc (.cells #[.string ⟨x.toArray⟩] 9)) (.slice (some ⟨w.heap.size, 0, none⟩) 1 1) 1 (wv [x]) := by
  refine .inr ⟨_, _, rfl, fun j u hj => ?_⟩
  match j, hj with
  | 0, hj => simp [wv] at hj; subst hj; simp [Addr.add]
  | j + 1, hj => simp [wv] at hj
theorem md_at : ∀ d : Nat, d ≤ 2 → ∀ x : World, (Instr.index 55 mdV (.int .i64 d)).run Tryd.prog x = .ok (.string (mdB d)) x
  | 0, _ => fun _ => by kernel_rfl
  | 1, _ => fun _ => by kernel_rfl
  | 2, _ => fun _ => by kernel_rfl
  | n + 3, h => absurd h (by omega)
theorem md_z (d : Int) (h0 : 0 ≤ d) (h : d ≤ 2) (x : World) : (Instr.index 55 mdV (.int .i64 d)).run Tryd.prog x = .ok (.string (mdB d)) x := by
  obtain ⟨m, rfl⟩ : ∃ m : Nat, d = m := ⟨d.toNat, by omega⟩
  exact md_at m (by omega) x
end Go.Proofs.YtghfkpddkmaflaaDoor
