/- Contracts of frame.word, frame.sum and of the reference's. No condition but those that each names. -/
import Derived.Test.YthdenjokedmcfaaFr
import Derived.Test.YthdenjokedmcfaaCrcM
import Derived.Test.YthdenjokedmcfaaSept
import Derived.Test.YthdenjokedmcfaaRef4
import Derived.Deep.DeepMust
namespace Go.Proofs.Ythdenjokedmcfaa
open Go.RowKit
set_option maxRecDepth 20000
theorem fword_any {w : World} {b : Nat} {s : ByteArray} {p : Nat} (h : IsRd w b s p) (hp : p ≤ s.size) (hs : s.size ≤ 140737488355328) :
    Calls Try.prog 78 #[.pointer (some ⟨b, 0, none⟩)] w fun e w' => e = .returned (.tuple #[.int .u32 (wrd s p).1, .int .i64 (wrd s p).2.1]) ∧ RdPost w b s (wrd s p).2.2 w' := by
  have hg := sget_any h hp hs 5
  have hle := wrd_le s p hp
  have hlt := sget_lt s p 5
  unfold wrd at *
  generalize sget s p 5 = r at hg hle hlt ⊢
  obtain ⟨n, e, q⟩ := r
  simp only at hg hle hlt ⊢
  by_cases he : e = 0
  · have hd : ((e : Int) == 0) = true := by simp [he]
    by_cases hn : 4294967295 < n
    · have hn' : (4294967295 : Int) < n := by omega
      rw [if_pos ⟨he, hn⟩]
      clear hle hlt he
      go_enter Try.func78, Try.ntmps78
      go_wp2_with fail
      refine hg.mono ?_
      rintro x w1 ⟨rfl, hq⟩
      go_wp2_with fail
      go_ret2
      exact ⟨rfl, hq⟩
    · have hn' : ¬ (4294967295 : Int) < n := by omega
      rw [if_neg (fun x => hn x.2)]
      have HE := Lib.hid he
      have hnl : n ≤ 4294967295 := by omega
      clear hle hlt he hn
      go_enter Try.func78, Try.ntmps78
      go_wp2_with fail
      refine hg.mono ?_
      rintro x w1 ⟨rfl, hq⟩
      go_wp2_with fail
      go_ret2
      exact ⟨rfl, hq⟩
  · have hd : ((e : Int) == 0) = false := by simp [he]
    rw [if_neg (fun x => he x.1)] at hle ⊢
    simp only at hle
    clear hlt he
    go_enter Try.func78, Try.ntmps78
    go_wp2_with fail
    refine hg.mono ?_
    rintro x w1 ⟨rfl, hq⟩
    go_wp2_with fail
    go_ret2
    exact ⟨rfl, hq⟩
theorem rword_any {s : ByteArray} {p : Nat} (hp : p ≤ s.size) (hs : s.size ≤ 140737488355328) (w : World) :
    Calls Try.prog 61 #[.string s, .int .i64 p] w fun e w' => e = .returned (.tuple #[.int .u32 (wrd s p).1, .int .i64 (wrd s p).2.1, .int .i64 (wrd s p).2.2]) ∧ w = w' := by
  have hg := r4get_any hp hs 5 w
  have hle := wrd_le s p hp
  have hlt := sget_lt s p 5
  unfold wrd at *
  generalize sget s p 5 = r at hg hle hlt ⊢
  obtain ⟨n, e, q⟩ := r
  simp only at hg hle hlt ⊢
  by_cases he : e = 0
  · have hd : ((e : Int) == 0) = true := by simp [he]
    by_cases hn : 4294967295 < n
    · have hn' : (4294967295 : Int) < n := by omega
      rw [if_pos ⟨he, hn⟩]
      clear hle hlt he
      go_enter Try.func61, Try.ntmps61
      go_wp2_with fail
      refine hg.mono ?_
      rintro x w1 ⟨rfl, rfl⟩
      go_wp2_with fail
      exact bodyPost_ret (v := .tuple #[.int .u32 0, .int .i64 5, .int .i64 q]) (by simp [results, Try.results61, go_sem]) rfl ⟨rfl, rfl⟩
    · have hn' : ¬ (4294967295 : Int) < n := by omega
      rw [if_neg (fun x => hn x.2)]
      have HE := Lib.hid he
      have hnl : n ≤ 4294967295 := by omega
      clear hle hlt he hn
      go_enter Try.func61, Try.ntmps61
      go_wp2_with fail
      refine hg.mono ?_
      rintro x w1 ⟨rfl, rfl⟩
      go_wp2_with fail
      exact bodyPost_ret (v := .tuple #[.int .u32 n, .int .i64 e, .int .i64 q]) (by simp [results, Try.results61, go_sem]) rfl ⟨rfl, rfl⟩
  · have hd : ((e : Int) == 0) = false := by simp [he]
    rw [if_neg (fun x => he x.1)] at hle ⊢
    simp only at hle
    clear hlt he
    go_enter Try.func61, Try.ntmps61
    go_wp2_with fail
    refine hg.mono ?_
    rintro x w1 ⟨rfl, rfl⟩
    go_wp2_with fail
    exact bodyPost_ret (v := .tuple #[.int .u32 n, .int .i64 e, .int .i64 q]) (by simp [results, Try.results61, go_sem]) rfl ⟨rfl, rfl⟩
theorem rd_trans' {w w1 w2 : World} {b p q : Nat} {s : ByteArray} (h : RdPost w b s p w1) (k : RdPost w1 b s q w2) : RdPost w b s q w2 := ⟨k.1, h.2.trans k.2 fun _ _ x => x⟩
theorem rd_below {w w1 w2 : World} {b q : Nat} {s : ByteArray} (h : RdPost w b s q w1) (k : Below w1.heap.size w1 w2) : RdPost w b s q w2 := ⟨h.1.kept k, h.2.trans (Only.of_below k (fun _ => False)) fun _ _ x => x.elim⟩
set_option maxHeartbeats 1000000 in
theorem fsum_any {w : World} {b tb : Nat} {s : ByteArray} {p : Nat} (h : IsRd w b s p) (hp : p ≤ s.size) (hs : s.size ≤ 140737488355328) (hT : IsTab w tb) (hne : tb ≠ b) (t : ByteArray) (ht : t.size ≤ 140737488355328) :
    Calls Try.prog 58 #[.pointer (some ⟨tb, 0, none⟩), .pointer (some ⟨b, 0, none⟩), .string t] w fun e w' => e = .returned (.int .i64 (smE s p t.data.toList)) ∧ RdPost w b s (wrd s p).2.2 w' := by
  have hg := fword_any h hp hs
  unfold smE
  have hcl := crcV_lt t.data.toList
  generalize wrd s p = r at hg ⊢
  obtain ⟨n, e, q⟩ := r
  simp only at hg ⊢
  by_cases he : e = 0
  · subst he
    have hd : (((0 : Nat) : Int) == 0) = true := rfl
    have hcsg := fun x g' hx hc => csum_any x tb g' t hx hc ht
    generalize crcV t.data.toList = c at hcsg hcl ⊢
    by_cases hc : n = c
    · have hd2 : ((n : Int) != c) = false := by simp [hc]
      rw [if_neg (fun x => x.2 hc)]
      clear hc
      go_enter Try.func58, Try.ntmps58
      go_wp2_with fail
      refine hg.mono ?_
      rintro x w1 ⟨rfl, hq⟩
      have hT1 := hT.only hq.2 hne
      have hB1 := (Below.refl w1.heap.size w1).alloc (Nat.le_refl _) (.cells #[.string t] 9)
      have hT2 := hT1.kept hB1
      have hc2 : (w1.alloc (.cells #[.string t] 9)).cell? ⟨w1.heap.size, 0, none⟩ = some (.string t) := cell_blk (heap_alloc_new w1 _) 0
      have hcs := hcsg _ _ hT2 hc2
      have hq2 := rd_below hq hB1
      clear hT hT1 hT2 hc2 hcsg
      go_wp2_with (go_at_call 52; (refine hcs.mono ?_); rintro x0 w3 ⟨rfl, n3, rfl⟩)
      go_ret
      exact ⟨rfl, rd_below hq2 (kept_drewN _ _)⟩
    · have hd2 : ((n : Int) != c) = true := by simp; omega
      rw [if_pos ⟨rfl, hc⟩]
      clear hc
      go_enter Try.func58, Try.ntmps58
      go_wp2_with fail
      refine hg.mono ?_
      rintro x w1 ⟨rfl, hq⟩
      have hT1 := hT.only hq.2 hne
      have hB1 := (Below.refl w1.heap.size w1).alloc (Nat.le_refl _) (.cells #[.string t] 9)
      have hT2 := hT1.kept hB1
      have hc2 : (w1.alloc (.cells #[.string t] 9)).cell? ⟨w1.heap.size, 0, none⟩ = some (.string t) := cell_blk (heap_alloc_new w1 _) 0
      have hcs := hcsg _ _ hT2 hc2
      have hq2 := rd_below hq hB1
      clear hT hT1 hT2 hc2 hcsg
      go_wp2_with (go_at_call 52; (refine hcs.mono ?_); rintro x0 w3 ⟨rfl, n3, rfl⟩)
      go_ret
      exact ⟨rfl, rd_below hq2 (kept_drewN _ _)⟩
  · have hd : ((e : Int) == 0) = false := by simp [he]
    rw [if_neg (fun x => he x.1)]
    clear he
    go_enter Try.func58, Try.ntmps58
    go_wp2_with fail
    refine hg.mono ?_
    rintro x w1 ⟨rfl, hq⟩
    go_wp2_with fail
    go_ret
    exact ⟨rfl, hq⟩
set_option maxHeartbeats 1000000 in
theorem rsm_any {s : ByteArray} {p : Nat} (hp : p ≤ s.size) (hs : s.size ≤ 140737488355328) (t : ByteArray) (ht : t.size ≤ 140737488355328) (w : World) :
    Calls Try.prog 63 #[.string s, .int .i64 p, .string t] w fun e w' => e = .returned (.tuple #[.int .i64 (smE s p t.data.toList), .int .i64 (wrd s p).2.2]) ∧ ∃ n, w.drewN n = w' := by
  have hg := rword_any hp hs w
  have hcs := fun x => rsum_any t ht x
  unfold smE
  generalize wrd s p = r at hg ⊢
  obtain ⟨n, e, q⟩ := r
  simp only at hg ⊢
  by_cases he : e = 0
  · subst he
    have hd : (((0 : Nat) : Int) == 0) = true := rfl
    generalize crcV t.data.toList = c at hcs ⊢
    by_cases hc : n = c
    · have hd2 : ((n : Int) != c) = false := by simp [hc]
      rw [if_neg (fun x => x.2 hc)]
      clear hc
      go_enter Try.func63, Try.ntmps63
      go_wp2_with fail
      refine hg.mono ?_
      rintro x w1 ⟨rfl, rfl⟩
      go_wp2_with (go_at_call 47; (refine (hcs _).mono ?_); rintro x0 w3 ⟨rfl, n3, rfl⟩)
      go_ret2
      exact ⟨rfl, _, rfl⟩
    · have hd2 : ((n : Int) != c) = true := by simp; omega
      rw [if_pos ⟨rfl, hc⟩]
      clear hc
      go_enter Try.func63, Try.ntmps63
      go_wp2_with fail
      refine hg.mono ?_
      rintro x w1 ⟨rfl, rfl⟩
      go_wp2_with (go_at_call 47; (refine (hcs _).mono ?_); rintro x0 w3 ⟨rfl, n3, rfl⟩)
      go_ret2
      exact ⟨rfl, _, rfl⟩
  · have hd : ((e : Int) == 0) = false := by simp [he]
    rw [if_neg (fun x => he x.1)]
    clear he
    go_enter Try.func63, Try.ntmps63
    go_wp2_with fail
    refine hg.mono ?_
    rintro x w1 ⟨rfl, rfl⟩
    go_wp2_with fail
    go_ret2
    exact ⟨rfl, 0, rfl⟩
end Go.Proofs.Ythdenjokedmcfaa
