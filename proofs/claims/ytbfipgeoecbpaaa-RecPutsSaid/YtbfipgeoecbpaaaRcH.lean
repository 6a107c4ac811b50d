/- A hunter of a recorder's bytes, in plain words: it tells each frame, and nothing else. No program in sight. No condition. -/
import Derived.Test.YtbfipgeoecbpaaaHuZ
import Derived.Test.YtbfipgeoecbpaaaRc
namespace Go.Proofs.Ytbfipgeoecbpaaa
open Go.RowKit
set_option linter.unusedVariables false
set_option linter.unusedSimpArgs false
set_option maxRecDepth 20000
theorem range_getDR (l : List Ev) : (List.range l.length).map (fun i => l.getD i default) = l := by
  refine List.ext_getElem (by simp) fun i h1 h2 => ?_
  simp [List.getElem?_eq_getElem h2]
/-- What frames one behind the other tell. -/
def frIts : Nat → List (List Ev) → List PIt
  | _, [] => []
  | k, f :: t => (1, k, 0, f) :: frIts (k + 1) t
theorem frIts_len : ∀ (t : List (List Ev)) (k : Nat), (frIts k t).length = t.length
  | [], _ => rfl
  | f :: t, k => by rw [frIts, List.length_cons, frIts_len t, List.length_cons]
theorem frIts_at : ∀ (t : List (List Ev)) (k i : Nat), i < t.length → (frIts k t)[i]? = some (1, k + i, 0, t.getD i [])
  | [], _, i, h => absurd h (Nat.not_lt_zero _)
  | f :: t, k, 0, _ => rfl
  | f :: t, k, i + 1, h => by
    rw [frIts, List.getElem?_cons_succ, frIts_at t (k + 1) i (by simpa using h), show k + 1 + i = k + (i + 1) by omega]
    rfl
theorem rc_frame {X : ByteArray} {cl : Bool} {its : List PIt} {p k : Nat} {f : List Ev} {post : List UInt8} (h1 : lOk f) (h2 : f ≠ []) (h3 : (lB f).length ≤ 120) (hk : k < 4294967296) (hd : X.data.toList.drop p = frT k f ++ post) :
    hfin X cl ⟨its, p, k, 0, 0⟩ = hfin X cl ⟨its ++ [(1, k, 0, f)], p + (frT k f).length, k + 1, 0, 0⟩ := by
  have hl := frT_len (seq := k) h1 h2 h3
  have hE := frE_ok h1 h2 h3
  have hT : frT k f = frB k (fun i => f.getD i default) f.length := by unfold frT frS; rw [if_pos hE]
  have hsz : p + (frT k f).length ≤ X.size := by
    have := congrArg List.length hd
    rw [List.length_drop, List.length_append] at this
    have h2 : X.data.toList.length = X.size := by simp
    omega
  have hr := frR_back (s := X) (p := p) hE (lOk_wf h1) hk (by rw [hd, hT]) (by omega)
  rw [range_getDR, ← hT] at hr
  have hs : hstop X cl ⟨its, p, k, 0, 0⟩ = false := by
    unfold hstop
    simp only
    rw [hr]
    simp
    omega
  rw [hfin_next hs]
  congr 1
  unfold hnext hskip
  simp only
  rw [hr]
  simp [told, gapI]
theorem rc_hunt (X : ByteArray) (cl : Bool) : ∀ (t : List (List Ev)) (k p : Nat) (its : List PIt), (∀ f ∈ t, lOk f ∧ f ≠ [] ∧ (lB f).length ≤ 120) → k + t.length < 4294967296 → X.data.toList.drop p = (txt k t).flatten → p ≤ X.size →
    hfin X cl ⟨its, p, k, 0, 0⟩ = ⟨its ++ frIts k t, X.size, k + t.length, 0, 0⟩
  | [], k, p, its, _, _, hd, hp => by
    have hl : p = X.size := by
      have := congrArg List.length hd
      simp [txt] at this
      have h2 : X.data.toList.length = X.size := by simp
      omega
    subst hl
    rw [hfin_stop (by unfold hstop; simp)]
    simp [frIts]
  | f :: t, k, p, its, h, hk, hd, hp => by
    obtain ⟨h1, h2, h3⟩ := h f (by simp)
    have hk' : k < 4294967296 := by simp at hk; omega
    rw [txt, List.flatten_cons] at hd
    have hl : p + (frT k f).length ≤ X.size := by
      have := congrArg List.length hd
      rw [List.length_drop, List.length_append] at this
      have h2 : X.data.toList.length = X.size := by simp
      have := frT_len (seq := k) h1 (h f (by simp)).2.1 h3
      omega
    rw [rc_frame h1 h2 h3 hk' hd, rc_hunt X cl t (k + 1) _ _ (fun g hg => h g (by simp [hg])) (by simp at hk ⊢; omega) (by rw [← List.drop_drop, hd, List.drop_left]) hl]
    simp [frIts]
    omega
/-- All that a recorder's bytes tell. -/
theorem rc_all {room : Nat} {R : Rcd} (h : R.Inv room) (hr : room ≤ 120) (hn : R.fr.length ≤ 5000) (cl : Bool) : hfin ⟨((txt 0 R.fr).flatten).toArray⟩ cl hs0 = ⟨frIts 0 R.fr, (⟨((txt 0 R.fr).flatten).toArray⟩ : ByteArray).size, R.fr.length, 0, 0⟩ := by
  have := rc_hunt ⟨((txt 0 R.fr).flatten).toArray⟩ cl R.fr 0 0 [] (fun f hf => ⟨(h.fr f hf).1, (h.fr f hf).2.1, by have := (h.fr f hf).2.2; omega⟩) (by omega) (by simp) (Nat.zero_le _)
  rw [Nat.zero_add, List.nil_append] at this
  exact this
/-- All events that stand in a recorder. -/
def Rcd.evs (R : Rcd) : List Ev := R.fr.flatten ++ R.op
theorem evs_flush (R : Rcd) : R.flush.evs = R.evs := by
  unfold Rcd.flush
  split
  · rfl
  · unfold Rcd.evs
    simp
theorem evs_put {room : Nat} {R : Rcd} {e : Ev} (h : R.err e = 0) : (R.put room e).evs = R.evs ++ [e] := by
  have : (R.fl room e).evs = R.evs := by
    unfold Rcd.fl
    split
    · rfl
    · exact evs_flush R
  unfold Rcd.put
  rw [if_neg (fun q => q h)]
  rw [← this]
  unfold Rcd.evs
  simp
theorem evs_close {room : Nat} {R : Rcd} {cy ct : Nat} (h : R.err (closeEv cy ct) = 0) : (R.close room cy ct).evs = R.evs ++ [closeEv cy ct] := by
  unfold Rcd.close
  rw [if_neg (fun q => q h)]
  rw [← evs_put (room := room) h, ← evs_flush (R.put room (closeEv cy ct))]
  rfl
end Go.Proofs.Ytbfipgeoecbpaaa
