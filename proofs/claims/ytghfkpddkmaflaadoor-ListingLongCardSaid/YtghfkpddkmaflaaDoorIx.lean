/- Contract of the listing's reader: number. Conditions: the library's variables' data. -/
import Derived.Test.YtghfkpddkmaflaaDoorIw
namespace Go.Proofs.YtghfkpddkmaflaaDoor
open Go Go.RowKit
set_option linter.unusedVariables false
set_option linter.unusedSimpArgs false
set_option maxRecDepth 20000
theorem Gl.only {S : Nat → Prop} {w w' : World} (g : Gl w) (o : Only S w w') (h : ∀ i, i < 8 → ¬ S i) : Gl w' := g.below (o.below g.sz h) (Nat.le_refl 8)
set_option maxHeartbeats 4000000 in
theorem lrnum_any (r q : Nat) (rem : List (List UInt8)) (bad : Bool) (w : World) (h : RS w r q rem bad) (g : Gl w) (hr8 : 8 ≤ r) : Calls Tryd.prog 38 #[.pointer (some ⟨r, 0, none⟩)] w fun e w' => ∃ v rem' bad', e = .returned (.int .u32 (v : Nat)) ∧ RF w r q (numP 32) 4294967296 rem bad v rem' bad' w' := by
  obtain ⟨X, rem1, bad1, hm, hE⟩ : ∃ X rem1 bad1, (Calls Tryd.prog 35 #[.pointer (some ⟨r, 0, none⟩)] w fun e w' => e = .returned (.string X) ∧ RS w' r q rem1 bad1 ∧ Only (fun k => k = r) w w') ∧
      Hid ((∀ u : Nat, numP 32 X.data.toList = some u → u < 4294967296 → ∀ w1, RS w1 r q rem1 bad1 → Only (fun k => k = r) w w1 → RF w r q (numP 32) 4294967296 rem bad u rem1 bad1 w1) ∧ (numP 32 X.data.toList = none → tkF true (numP 32) rem = none) ∧ X.size ≤ 99000) := by
    cases rem with
    | nil => exact ⟨_, _, _, lnext_nil r q bad w h, Lib.hid ⟨fun u hu => (by cases hu), fun _ => rfl, by decide⟩⟩
    | cons x t => exact ⟨_, _, _, lnext_cons r q x t bad w h, Lib.hid ⟨fun u hu hl w1 h1 o1 => RF.good hu hl h1 o1, fun k => tkF_none k, by rw [txB_size]; exact h.sz x List.mem_cons_self⟩⟩
  have hs := hE.out.2.2
  clear h
  cases hp : Lib.parseUintB 32 X.data.toList with
  | ok u =>
    have hu : u < 4294967296 := by
      have h2 := Lib.parseUintB_le hp
      omega
    have hcall : ∀ W, Calls Tryd.prog 53 #[.string X, .int .i64 10, .int .i64 32] W fun e w' => e = .returned (.tuple #[.int .u64 u, .nilIface]) ∧ Below W.heap.size W w' := by
      intro W
      exact (Tryd.strconv_ParseUint_10_at32_ok X (by omega) u hp W).mono fun e w' h => ⟨h.1, bel_bytes h.2⟩
    have hN : numP 32 X.data.toList = if Lib.decDigits u = X.data.toList then some u else none := by
      unfold numP
      rw [hp]
    have HN := Lib.hid hN
    clear hN hp
    have hfm := fun x gx => fdb_any u x (by unfold FOk; omega) gx
    by_cases hd : DB u = X
    · have hc := ba_eq hd
      have HD := Lib.hid (show numP 32 X.data.toList = some u by rw [HN.out, if_pos]; rw [← hd]; rfl)
      clear hd
      have hcn : (!((DB u).toList == X.toList)) = false := by rw [hc]; rfl
      go_enter Tryd.func38, Tryd.ntmps38
      go_wp2_with fail
      refine hm.mono ?_
      rintro e w1 ⟨rfl, h1, o1⟩
      go_wp2_with fail
      refine (hcall _).mono ?_
      rintro e w2 ⟨rfl, hk⟩
      have o2 := o1.trans (Only.of_below hk (fun k => k = r)) (fun _ _ h => h)
      have h2 := h1.on (Only.of_below hk (fun _ => False)) (fun h => h) (fun h => h)
      have g2 := g.only o2 (fun i hi e => by omega)
      clear hk h1 o1
      go_wp2_with fail
      refine (hfm _ g2).mono ?_
      rintro e w3 ⟨rfl, hk⟩
      have o3 := o2.trans (Only.of_below hk (fun k => k = r)) (fun _ _ h => h)
      have h3 := h2.on (Only.of_below hk (fun _ => False)) (fun h => h) (fun h => h)
      go_wp2_with fail
      go_ret
      exact ⟨u, _, _, rfl, hE.out.1 u HD.out hu _ h3 o3⟩
    · have hc := ba_ne hd
      have HD := Lib.hid (show tkF true (numP 32) rem = none from hE.out.2.1 (by
        rw [HN.out, if_neg]
        intro e
        apply hd
        unfold DB
        rw [e]))
      clear hd
      have hcn : (!((DB u).toList == X.toList)) = true := by rw [hc]; rfl
      go_enter Tryd.func38, Tryd.ntmps38
      go_wp2_with fail
      refine hm.mono ?_
      rintro e w1 ⟨rfl, h1, o1⟩
      go_wp2_with fail
      refine (hcall _).mono ?_
      rintro e w2 ⟨rfl, hk⟩
      have o2 := o1.trans (Only.of_below hk (fun k => k = r)) (fun _ _ h => h)
      have h2 := h1.on (Only.of_below hk (fun _ => False)) (fun h => h) (fun h => h)
      have g2 := g.only o2 (fun i hi e => by omega)
      clear hk h1 o1
      go_wp2_with fail
      refine (hfm _ g2).mono ?_
      rintro e w3 ⟨rfl, hk⟩
      have o3 := o2.trans (Only.of_below hk (fun k => k = r)) (fun _ _ h => h)
      have h3 := h2.on (Only.of_below hk (fun _ => False)) (fun h => h) (fun h => h)
      obtain ⟨y1, f1⟩ := h3.cells
      go_wp2_with fail
      go_ret
      exact ⟨0, _, _, rfl, RF.fail HD.out (by decide) h3 o3⟩
  | «syntax» =>
    have HD := Lib.hid (show tkF true (numP 32) rem = none from hE.out.2.1 (by unfold numP; rw [hp]))
    have hcall : ∀ W tp p, W.cell? ⟨2, 0, none⟩ = some (.iface tp p) → Calls Tryd.prog 53 #[.string X, .int .i64 10, .int .i64 32] W fun e w' => ∃ N : Nat, e = .returned (.tuple #[.int .u64 0, .iface 116 (.pointer (some ⟨N, 0, none⟩))]) ∧ Below W.heap.size W w' := by
      intro W tp p hW
      exact (Tryd.strconv_ParseUint_10_at32_syntax X (by omega) hp _ W hW (Or.inr ⟨_, _, rfl⟩)).mono fun e w' ⟨N, h⟩ => ⟨N, h.1, h.2.2.2⟩
    clear hp
    go_enter Tryd.func38, Tryd.ntmps38
    go_wp2_with fail
    refine hm.mono ?_
    rintro e w1 ⟨rfl, h1, o1⟩
    obtain ⟨tp, p, hv⟩ := (g.only o1 (fun i hi e => by omega)).syn
    go_wp2_with fail
    refine (hcall _ tp p hv).mono ?_
    rintro e w2 ⟨N, rfl, hk⟩
    have o2 := o1.trans (Only.of_below hk (fun k => k = r)) (fun _ _ h => h)
    have h2 := h1.on (Only.of_below hk (fun _ => False)) (fun h => h) (fun h => h)
    obtain ⟨y1, f1⟩ := h2.cells
    clear hk h1 o1 hv
    go_wp2_with fail
    go_ret
    exact ⟨0, _, _, rfl, RF.fail HD.out (by decide) h2 o2⟩
  | range =>
    have HD := Lib.hid (show tkF true (numP 32) rem = none from hE.out.2.1 (by unfold numP; rw [hp]))
    have hcall : ∀ W tp p, W.cell? ⟨3, 0, none⟩ = some (.iface tp p) → Calls Tryd.prog 53 #[.string X, .int .i64 10, .int .i64 32] W fun e w' => ∃ N : Nat, e = .returned (.tuple #[.int .u64 (2 ^ 32 - 1 : Nat), .iface 116 (.pointer (some ⟨N, 0, none⟩))]) ∧ Below W.heap.size W w' := by
      intro W tp p hW
      exact (Tryd.strconv_ParseUint_10_at32_range X (by omega) hp _ W hW (Or.inr ⟨_, _, rfl⟩)).mono fun e w' ⟨N, h⟩ => ⟨N, h.1, h.2.2.2⟩
    clear hp
    go_enter Tryd.func38, Tryd.ntmps38
    go_wp2_with fail
    refine hm.mono ?_
    rintro e w1 ⟨rfl, h1, o1⟩
    obtain ⟨tp, p, hv⟩ := (g.only o1 (fun i hi e => by omega)).rng
    go_wp2_with fail
    refine (hcall _ tp p hv).mono ?_
    rintro e w2 ⟨N, rfl, hk⟩
    have o2 := o1.trans (Only.of_below hk (fun k => k = r)) (fun _ _ h => h)
    have h2 := h1.on (Only.of_below hk (fun _ => False)) (fun h => h) (fun h => h)
    obtain ⟨y1, f1⟩ := h2.cells
    clear hk h1 o1 hv
    go_wp2_with fail
    go_ret
    exact ⟨0, _, _, rfl, RF.fail HD.out (by decide) h2 o2⟩
end Go.Proofs.YtghfkpddkmaflaaDoor
