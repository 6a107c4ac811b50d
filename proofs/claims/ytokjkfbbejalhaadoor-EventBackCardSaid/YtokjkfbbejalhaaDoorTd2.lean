/- Contract of the reference's Digits. No condition but those that it names. -/
import Derived.Test.YtokjkfbbejalhaaDoorTn
import Derived.Test.YtokjkfbbejalhaaDoorTt
namespace Go.Proofs.YtokjkfbbejalhaaDoor
open Go Go.RowKit
set_option linter.unusedVariables false
set_option linter.unusedSimpArgs false
set_option maxRecDepth 20000
theorem run_str_one {P : Program} {src dst e : Nat} (hs : P.underlying src = some (.slice e)) (he : P.underlying e = some (.int .u8)) (hd : P.underlying dst = some .string) (w : World) (b : Nat) (u : UInt8) (hc : w.cell? ⟨b, 0, none⟩ = some (.int .u8 u.toNat)) :
    (convert src dst (.slice (some ⟨b, 0, none⟩) 1 1)).run P w = .ok (.string ⟨#[u]⟩) w := by
  rw [run_convert_bytes_string w src dst e (some ⟨b, 0, none⟩) 1 1 hs he hd]
  have hcells : ∀ j x, (bv [u])[j]? = some x → w.cell? ((⟨b, 0, none⟩ : Addr).add j) = some x := by
    intro j x hj
    match j, hj with
    | 0, hj => simp [bv] at hj; subst hj; simpa [Addr.add] using hc
    | j + 1, hj => simp [bv] at hj
  have hl := run_loadCells_list (P := P) w ⟨b, 0, none⟩ (bv [u]) hcells
  have hb : bv [u] = ([u].map fun b => (b.toNat : Int)).map (Value.int .u8) := by simp [bv]
  rw [hb, List.length_map, List.length_map] at hl
  refine (run_bytesToString (P := P) w ⟨b, 0, none⟩ 1 1 ([u].map fun b => (b.toNat : Int)) hl).trans ?_
  congr 2
  rw [fold_push]
  rfl
theorem dig_conv (W : World) (v : Value) (b d : Nat) (hd : d < 10) (hc : W.cell? ⟨b, 0, none⟩ = some (.int .u8 (48 + d))) :
    (convert 63 9 (.slice (some ⟨b, 0, none⟩) 1 1)).run Tryd.prog W = .ok (.string ⟨#[UInt8.ofNat (48 + d)]⟩) W :=
  run_str_one Tryd.underlying63 Tryd.underlying5 Tryd.underlying9 W b (UInt8.ofNat (48 + d)) (by rw [hc, UInt8.toNat_ofNat', Nat.mod_eq_of_lt (by omega)]; rfl)
set_option maxHeartbeats 2000000 in
theorem rdig_any (u : Nat) (hu : FOk u) (w : World) : Calls Tryd.prog 29 #[.int .u64 u] w fun e w' => e = .returned (.string (DB u)) ∧ Below w.heap.size w w' := by
  have hbound : u < 18446744073709551616 := hu
  have hD := Lib.hid hu
  clear hu
  have HZ := Lib.hid (fun (n : Nat) (S : ByteArray) (h : Lib.decDigits u = Lib.decDigits n ++ S.data.toList) => show S.size ≤ 20 by
    have h1 := DB_size u hD.out
    have h2 : (DB u).size = (Lib.decDigits u).length := by show (Lib.decDigits u).toArray.size = _; simp
    have h3 : S.size = S.data.toList.length := by simp
    have := congrArg List.length h
    rw [List.length_append] at this
    omega)
  go_enter Tryd.func29, Tryd.ntmps29
  go_wp2_with fail
  go_loopw [0, 3] (fun x y wr => ∃ (n : Nat) (S : ByteArray), x = .int .u64 n ∧ y = .string S ∧ n ≤ u ∧ Hid (Lib.decDigits u = Lib.decDigits n ++ S.data.toList) ∧ Below w.heap.size w wr) (fun x _ _ => (intOf x).toNat)
  case atStart => exact ⟨u, ⟨#[]⟩, rfl, rfl, Nat.le_refl _, Lib.hid (by simp), Below.refl _ _⟩
  case round =>
    obtain ⟨n, S, rfl, rfl, hn, HS, hB⟩ := hrel
    have hz := HZ.out n S HS.out
    by_cases h9 : 9 < n
    · obtain ⟨D, hDD⟩ : ∃ D : ByteArray, D = ⟨#[UInt8.ofNat (48 + n % 10)]⟩ := ⟨_, rfl⟩
      have hcv : (convert 63 9 (.slice (some ⟨wr.heap.size, 0, none⟩) 1 1)).run Tryd.prog (wr.alloc (.cells #[.int .u8 (48 + (n : Int) % 10)] 5)) = .ok (.string D) (wr.alloc (.cells #[.int .u8 (48 + (n : Int) % 10)] 5)) := by
        rw [hDD]
        exact dig_conv _ (.int .u8 0) _ (n % 10) (Nat.mod_lt _ (by decide)) (by rw [World.cell?_alloc_new]; simp)
      have hz1 : D.size = 1 := by rw [hDD]; rfl
      have y1 : ¬ 9223372036854775807 < D.size + S.size := by omega
      have HD := Lib.hid hDD
      clear hDD hz1
      have hB2 := hB.alloc hB.size (.cells #[.int .u8 (48 + (n : Int) % 10)] 5)
      go_wp2_with fail
      go_roundw
      case rel =>
        refine ⟨n / 10, D ++ S, by simp, rfl, by omega, Lib.hid ?_, hB2⟩
        rw [HS.out, Lib.decDigits, dif_neg (by omega), HD.out]
        simp
      case measure => simp [intOf]; omega
    · obtain ⟨D, hDD⟩ : ∃ D : ByteArray, D = ⟨#[UInt8.ofNat (48 + n)]⟩ := ⟨_, rfl⟩
      have hcv : (convert 63 9 (.slice (some ⟨wr.heap.size, 0, none⟩) 1 1)).run Tryd.prog (wr.alloc (.cells #[.int .u8 (48 + (n : Int))] 5)) = .ok (.string D) (wr.alloc (.cells #[.int .u8 (48 + (n : Int))] 5)) := by
        rw [hDD]
        exact dig_conv _ (.int .u8 0) _ n (by omega) (by rw [World.cell?_alloc_new]; simp)
      have hz1 : D.size = 1 := by rw [hDD]; rfl
      have y1 : ¬ 9223372036854775807 < D.size + S.size := by omega
      have HD := Lib.hid hDD
      clear hDD hz1
      have hB2 := hB.alloc hB.size (.cells #[.int .u8 (48 + (n : Int))] 5)
      go_wp2_with fail
      go_ret
      refine ⟨?_, hB2⟩
      have : D ++ S = DB u := by
        unfold DB
        rw [HS.out, Lib.decDigits_one (by omega), HD.out]
        apply ByteArray.ext
        simp
      rw [← this]
      rfl
end Go.Proofs.YtokjkfbbejalhaaDoor
