/- Contract of the reference's Text. No condition but those that it names. -/
import Derived.Test.YtokjkfbbejalhaaDoorTd2
import Derived.Test.YtokjkfbbejalhaaDoorEvR
namespace Go.Proofs.YtokjkfbbejalhaaDoor
open Go Go.RowKit
set_option linter.unusedVariables false
set_option linter.unusedSimpArgs false
set_option maxRecDepth 20000
/-- Where the reference's Text stands. -/
structure TxS (w : World) (o h : Nat) (e : Ev) (w1 : World) : Prop where
  bel : Below w.heap.size w w1
  blk : w1.heap[o]? = some (.cells e.cells.toArray 25 (0, 0))
  has : w1.heap[h]? = some (.cells #[.bool (hasA e.k), .bool (hasB e.k), .bool (hasV e.k)] 47 (0, 0))
theorem TxS.on {w : World} {o h : Nat} {e : Ev} {w1 w2 : World} (s : TxS w o h e w1) (k : Below w1.heap.size w1 w2) : TxS w o h e w2 :=
  ⟨bel_next s.bel k, (k.block _ (blk_lt s.blk)).trans s.blk, (k.block _ (blk_lt s.has)).trans s.has⟩
theorem TxS.cells {w : World} {o h : Nat} {e : Ev} {w1 : World} (s : TxS w o h e w1) : w1.cell? ⟨h, 0, none⟩ = some (.bool (hasA e.k)) ∧ w1.cell? ⟨h, 1, none⟩ = some (.bool (hasB e.k)) ∧ w1.cell? ⟨h, 2, none⟩ = some (.bool (hasV e.k)) :=
  ⟨by rw [cell_blk s.has]; rfl, by rw [cell_blk s.has]; rfl, by rw [cell_blk s.has]; rfl⟩
set_option maxHeartbeats 4000000 in
theorem rtext_any (e : Ev) (he : e.Wf) (hc : e.chk = 0) (w : World) : Calls Tryd.prog 16 #[e.val] w fun x w' => x = .returned (.string ⟨(txt e).toArray⟩) ∧ Below w.heap.size w w' := by
  obtain ⟨hK, _⟩ := chk_ok hc
  have hK : 1 ≤ e.k ∧ e.k ≤ 24 := by simpa [isK] using hK
  obtain ⟨k, cy, ct, a, b, v⟩ := e
  simp only [Ev.val] at hK ⊢
  obtain ⟨k, rfl⟩ : ∃ kk : Nat, k = kk := ⟨k.toNat, by omega⟩
  have HE := Lib.hid he
  clear he hc
  have hO : (w.alloc (.cells #[.int .i64 k, .int .u64 cy, .int .u64 ct, .int .u32 a, .int .u32 b, .int .u32 v] 25)).heap[w.heap.size]? = some (.cells (Ev.cells ⟨k, cy, ct, a, b, v⟩).toArray 25 (0, 0)) := heap_alloc_new w _
  have hB1 := (Below.refl w.heap.size w).alloc (Nat.le_refl _) (.cells #[.int .i64 k, .int .u64 cy, .int .u64 ct, .int .u32 a, .int .u32 b, .int .u32 v] 25)
  go_enter Tryd.func16, Tryd.ntmps16
  go_upto_region 1 with fail
  generalize w.alloc (.cells #[.int .i64 k, .int .u64 cy, .int .u64 ct, .int .u32 a, .int .u32 b, .int .u32 v] 25) = w1 at hO hB1 ⊢
  obtain ⟨o, ho⟩ : ∃ o, o = w.heap.size := ⟨_, rfl⟩
  rw [← ho] at hO ⊢
  have hob : w.heap.size ≤ o := by omega
  clear ho
  have f1 : FOk ct := HE.out.ct
  have f2 : FOk cy := HE.out.cy
  have z1 := DB_size ct f1
  have z2 := DB_size cy f2
  have z3 : (nm k).size ≤ 10 := nm_size k (by omega)
  have hk0 : (0 : Int) ≤ k := by omega
  have hk1 : 1 ≤ k := by omega
  have hk2 : k ≤ 24 := by omega
  have hk25 : (k : Int) < 25 := by omega
  have fX : ∀ {w' : World}, Below w1.heap.size w1 w' → w'.cell? ⟨o, 0, none⟩ = some (.int .i64 k) ∧ w'.cell? ⟨o, 1, none⟩ = some (.int .u64 cy) ∧ w'.cell? ⟨o, 2, none⟩ = some (.int .u64 ct) := fun h => by
    have q := ev_cells ((h.block _ (blk_lt hO)).trans hO)
    exact ⟨q.1, q.2.1, q.2.2.1⟩
  have dX := fun (u : Nat) (W' : World) (h : FOk u) => rdig_any u h W'
  have nX := fun (W' : World) => rnames_any W'
  have H := fX (Below.refl _ w1).drew
  have kk := (Below.refl w1.heap.size w1).drew
  have y1 : ¬ 9223372036854775807 < (DB ct).size + 1 := by omega
  have y2 : ¬ 9223372036854775807 < (DB ct).size + 1 + (DB cy).size := by omega
  have y3 : ¬ 9223372036854775807 < (DB ct).size + 1 + (DB cy).size + 1 := by omega
  have y4 : ¬ 9223372036854775807 < (DB ct).size + 1 + (DB cy).size + 1 + (nm k).size := by omega
  go_cut [3] (fun u wx => u = .string (DB ct ++ ⟨#[32]⟩ ++ DB cy ++ ⟨#[32]⟩ ++ nm k) ∧ Below w1.heap.size w1 wx)
  case first =>
    refine wp_region_held_drew (S := (fun w' => w'.cell? ⟨o, 0, none⟩ = some (.int .i64 k) ∧ w'.cell? ⟨o, 1, none⟩ = some (.int .u64 cy) ∧ w'.cell? ⟨o, 2, none⟩ = some (.int .u64 ct))) (by kernel_rfl) H (fun hHeld => ?_)
    refine wpAnyH_take (i := 0) (v := ?_) rfl (by kernel_rfl) (by kernel_rfl) (by kernel_rfl) (fun _ _ _ h => h) (Or.inl ⟨by rfl, ?_⟩) (by assumption) ?_
    rotate_left
    · intro w hSw
      try dsimp only at hSw
      go_simp
      try with_reducible rfl
    try simp only [Act.put, List.setIfInBounds_toArray, List.set_cons_zero, List.set_cons_succ]
    refine wpAnyH_take (i := 1) (v := ?_) rfl (by kernel_rfl) (by kernel_rfl) (by kernel_rfl) (fun _ _ _ h => h) (Or.inl ⟨by rfl, ?_⟩) (by assumption) ?_
    rotate_left
    · intro w hSw
      try dsimp only at hSw
      go_simp
      try with_reducible rfl
    try simp only [Act.put, List.setIfInBounds_toArray, List.set_cons_zero, List.set_cons_succ]
    refine wpAnyH_take (i := 4) (v := ?_) rfl (by kernel_rfl) (by kernel_rfl) (by kernel_rfl) (fun _ _ _ h => h) (Or.inl ⟨by rfl, ?_⟩) (by assumption) ?_
    rotate_left
    · intro w hSw
      try dsimp only at hSw
      go_simp
      try with_reducible rfl
    try simp only [Act.put, List.setIfInBounds_toArray, List.set_cons_zero, List.set_cons_succ]
    refine wpAnyH_take (i := 5) (v := ?_) rfl (by kernel_rfl) (by kernel_rfl) (by kernel_rfl) (fun _ _ _ h => h) (Or.inl ⟨by rfl, ?_⟩) (by assumption) ?_
    rotate_left
    · intro w hSw
      try dsimp only at hSw
      go_simp
      try with_reducible rfl
    try simp only [Act.put, List.setIfInBounds_toArray, List.set_cons_zero, List.set_cons_succ]
    refine wpAnyH_take (i := 10) (v := ?_) rfl (by kernel_rfl) (by kernel_rfl) (by kernel_rfl) (fun _ _ _ h => h) (Or.inl ⟨by rfl, ?_⟩) (by assumption) ?_
    rotate_left
    · intro w hSw
      try dsimp only at hSw
      go_simp
      try with_reducible rfl
    try simp only [Act.put, List.setIfInBounds_toArray, List.set_cons_zero, List.set_cons_succ]
    refine wpAnyH_take (i := 11) (v := ?_) rfl (by kernel_rfl) (by kernel_rfl) (by kernel_rfl) (fun _ _ _ h => h) (Or.inl ⟨by rfl, ?_⟩) (by assumption) ?_
    rotate_left
    · intro w hSw
      try dsimp only at hSw
      go_simp
      try with_reducible rfl
    try simp only [Act.put, List.setIfInBounds_toArray, List.set_cons_zero, List.set_cons_succ]
    refine wpAnyH_ready (rs := [2]) (by kernel_rfl) (by simp) ?_
    refine AllReadyH.cons rfl (fun K hK => ?_) AllReadyH.nil
    go_simp
    refine (dX _ _ f1).mono ?_
    rintro x wA ⟨rfl, hkA⟩
    have hkWA := bel_next kk hkA
    refine hK.out _ _ (fX hkWA) (fun hHeld => ?_)
    clear hK K
    try simp only [Act.put, List.setIfInBounds_toArray, List.set_cons_zero, List.set_cons_succ]
    refine wpAnyH_take (i := 3) (v := ?_) rfl (by kernel_rfl) (by kernel_rfl) (by kernel_rfl) (fun _ _ _ h => h) (Or.inl ⟨by rfl, ?_⟩) (by assumption) ?_
    rotate_left
    · intro w hSw
      try dsimp only at hSw
      go_simp
      try with_reducible rfl
    try simp only [Act.put, List.setIfInBounds_toArray, List.set_cons_zero, List.set_cons_succ]
    refine wpAnyH_ready (rs := [6]) (by kernel_rfl) (by simp) ?_
    refine AllReadyH.cons rfl (fun K hK => ?_) AllReadyH.nil
    go_simp
    refine (dX _ _ f2).mono ?_
    rintro x wB ⟨rfl, hkB⟩
    have hkWB := bel_next hkWA hkB
    refine hK.out _ _ (fX hkWB) (fun hHeld => ?_)
    clear hK K
    try simp only [Act.put, List.setIfInBounds_toArray, List.set_cons_zero, List.set_cons_succ]
    refine wpAnyH_take (i := 7) (v := ?_) rfl (by kernel_rfl) (by kernel_rfl) (by kernel_rfl) (fun _ _ _ h => h) (Or.inl ⟨by rfl, ?_⟩) (by assumption) ?_
    rotate_left
    · intro w hSw
      try dsimp only at hSw
      go_simp
      try with_reducible rfl
    try simp only [Act.put, List.setIfInBounds_toArray, List.set_cons_zero, List.set_cons_succ]
    refine wpAnyH_take (i := 8) (v := ?_) rfl (by kernel_rfl) (by kernel_rfl) (by kernel_rfl) (fun _ _ _ h => h) (Or.inl ⟨by rfl, ?_⟩) (by assumption) ?_
    rotate_left
    · intro w hSw
      try dsimp only at hSw
      go_simp
      try with_reducible rfl
    try simp only [Act.put, List.setIfInBounds_toArray, List.set_cons_zero, List.set_cons_succ]
    refine wpAnyH_ready (rs := [9]) (by kernel_rfl) (by simp) ?_
    refine AllReadyH.cons rfl (fun K hK => ?_) AllReadyH.nil
    go_simp
    refine (nX _).mono ?_
    rintro x wC ⟨rfl, hnC, hkC, hltC⟩
    have hkWC := bel_next hkWB hkC
    have hnc := hnC.cell hk1 hk2
    refine hK.out _ _ (fX hkWC) (fun hHeld => ?_)
    clear hK K
    try simp only [Act.put, List.setIfInBounds_toArray, List.set_cons_zero, List.set_cons_succ]
    refine wpAnyH_take (i := 12) (v := ?_) rfl (by kernel_rfl) (by kernel_rfl) (by kernel_rfl) (fun _ _ _ h => h) (Or.inl ⟨by rfl, ?_⟩) (by assumption) ?_
    rotate_left
    · intro w hSw
      try dsimp only at hSw
      go_simp
      try with_reducible rfl
    try simp only [Act.put, List.setIfInBounds_toArray, List.set_cons_zero, List.set_cons_succ]
    refine wpAnyH_ready (rs := [13]) (by kernel_rfl) (by simp) ?_
    refine AllReadyH.cons rfl (fun K hK => ?_) AllReadyH.nil
    go_simp
    refine hK.out _ _ (fX hkWC) (fun hHeld => ?_)
    clear hK K
    try simp only [Act.put, List.setIfInBounds_toArray, List.set_cons_zero, List.set_cons_succ]
    refine wpAnyH_take (i := 14) (v := ?_) rfl (by kernel_rfl) (by kernel_rfl) (by kernel_rfl) (fun _ _ _ h => h) (Or.inl ⟨by rfl, ?_⟩) (by assumption) ?_
    rotate_left
    · intro w hSw
      try dsimp only at hSw
      go_simp
      try with_reducible rfl
    try simp only [Act.put, List.setIfInBounds_toArray, List.set_cons_zero, List.set_cons_succ]
    refine wpAnyH_take (i := 15) (v := ?_) rfl (by kernel_rfl) (by kernel_rfl) (by kernel_rfl) (fun _ _ _ h => h) (Or.inl ⟨by rfl, ?_⟩) (by assumption) ?_
    rotate_left
    · intro w hSw
      try dsimp only at hSw
      go_simp
      try with_reducible rfl
    try simp only [Act.put, List.setIfInBounds_toArray, List.set_cons_zero, List.set_cons_succ]
    refine wpAnyH_done (by kernel_rfl) ?_ _
    go_wp2_with fail
    go_meet
    exact ⟨rfl, hkWC⟩
  case rest =>
    obtain ⟨rfl, hkx⟩ := hcut
    have hB2 := bel_next hB1 hkx
    have hO2 := (hkx.block _ (blk_lt hO)).trans hO
    clear hO hB1 fX nX H kk y1 y2 y3 y4 hkx
    rename_i wx _
    obtain ⟨S0, hS0⟩ : ∃ S0, S0 = DB ct ++ ⟨#[32]⟩ ++ DB cy ++ ⟨#[32]⟩ ++ nm k := ⟨_, rfl⟩
    rw [← hS0]
    have hS1 : S0.data.toList = txtN ⟨k, cy, ct, a, b, v⟩ 0 := by
      rw [hS0]
      unfold txtN DB
      simp
    have hS2 : S0.size ≤ 52 := by
      rw [hS0]
      simp only [ByteArray.size_append]
      have : (ByteArray.mk #[32]).size = 1 := rfl
      omega
    have HS1 := Lib.hid hS1
    clear hS1 hS0 z1 z2 z3
    obtain ⟨c0, c1, c2, c3, c4, c5⟩ := ev_cells hO2
    simp only at c0 c1 c2 c3 c4 c5
    have hhs := fun x => rhas_any k x
    go_wp2_with fail
    refine (hhs _).mono ?_
    rintro x w2 ⟨rfl, hk2'⟩
    have st : TxS w o w2.heap.size ⟨k, cy, ct, a, b, v⟩ (w2.alloc (.cells #[.bool (hasA k), .bool (hasB k), .bool (hasV k)] 47)) :=
      ⟨(bel_next hB2 hk2').alloc (bel_next hB2 hk2').size _, blk_alloc ((hk2'.block _ (blk_lt hO2)).trans hO2) _, heap_alloc_new w2 _⟩
    clear hO2 hB2 hk2' c0 c1 c2 c3 c4 c5 hhs
    have ga : FOk a := by have := HE.out.a; unfold FOk; simp only at this; omega
    have gb : FOk b := by have := HE.out.b; unfold FOk; simp only at this; omega
    have gv : FOk v := by have := HE.out.v; unfold FOk; simp only at this; omega
    have za := DB_size a ga
    have zb := DB_size b gb
    have zv := DB_size v gv
    have ba : a < 4294967296 := HE.out.a
    have bb : b < 4294967296 := HE.out.b
    have bv : v < 4294967296 := HE.out.v
    have y1 : ¬ 9223372036854775807 < 1 + (DB a).size := by omega
    have y2 : ¬ 9223372036854775807 < 1 + (DB b).size := by omega
    have y3 : ¬ 9223372036854775807 < 1 + (DB v).size := by omega
    have y4 : ¬ 9223372036854775807 < S0.size + (1 + (DB a).size) := by omega
    have y5 : ¬ 9223372036854775807 < S0.size + (1 + (DB b).size) := by omega
    have y6 : ¬ 9223372036854775807 < S0.size + (1 + (DB v).size) := by omega
    have y7 : ¬ 9223372036854775807 < S0.size + (1 + (DB a).size) + (1 + (DB b).size) := by omega
    have y8 : ¬ 9223372036854775807 < S0.size + (1 + (DB a).size) + (1 + (DB v).size) := by omega
    have y9 : ¬ 9223372036854775807 < S0.size + (1 + (DB b).size) + (1 + (DB v).size) := by omega
    have y0 : ¬ 9223372036854775807 < S0.size + (1 + (DB a).size) + (1 + (DB b).size) + (1 + (DB v).size) := by omega
    have HTX := Lib.hid (show txt ⟨k, cy, ct, a, b, v⟩ = S0.data.toList ++ (ap (hasA k) a ++ (ap (hasB k) b ++ ap (hasV k) v)) by rw [HS1.out]; unfold txt txtN; simp)
    go_upto_region 3 with fail
    generalize w2.alloc (.cells #[.bool (hasA k), .bool (hasB k), .bool (hasV k)] 47) = w3 at st ⊢
    generalize w2.heap.size = h at st ⊢
    have ec := ev_cells st.blk
    have hc := st.cells
    simp only at ec hc
    cases hA : hasA k <;> cases hB : hasB k <;> cases hV : hasV k
    all_goals
      rw [hA, hB, hV] at hc HTX
      have HABV := Lib.hid (And.intro hA (And.intro hB hV))
      clear hA hB hV
      go_wp2_with (go_at_call 29; (refine (dX _ _ ?_).mono ?_); assumption; rintro x wA ⟨rfl, hkA⟩; have st := TxS.on st hkA; have ec := ev_cells st.blk; have hc := st.cells; simp only [HABV.out.1, HABV.out.2.1, HABV.out.2.2] at ec hc; clear hkA)
      go_ret
      refine ⟨?_, st.bel⟩
      rw [HTX.out]
      refine congrArg (fun S => Ending.returned (.string S)) (ByteArray.ext ?_)
      simp [DB, ap]
end Go.Proofs.YtokjkfbbejalhaaDoor
