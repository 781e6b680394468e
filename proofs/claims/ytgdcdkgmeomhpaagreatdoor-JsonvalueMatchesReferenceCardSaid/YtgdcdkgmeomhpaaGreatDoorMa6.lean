/- 'JsonvalueMatchesReference' holds: for every string the program and the reference parse the same value, or the same offset and error, where the listed package variables start as the program's text lays them (the tied card). -/
import Derived.Test.YtgdcdkgmeomhpaaGreatDoorProg
import Derived.KernelRfl
import Derived.Handed
import Derived.LaidLaws
import Derived.Lib.LaidU8
import Derived.ProofKit
import Derived.JoinedOf
import Derived.Test.YtgdcdkgmeomhpaaGreatDoorTie
import Derived.SevenTiedAt
import Derived.Test.YtgdcdkgmeomhpaaGreatDoorCards
import Derived.Test.YtgdcdkgmeomhpaaGreatDoorMa1
import Derived.Test.YtgdcdkgmeomhpaaGreatDoorMa2
import Derived.Test.YtgdcdkgmeomhpaaGreatDoorMa3
import Derived.Test.YtgdcdkgmeomhpaaGreatDoorMa4
import Derived.Test.YtgdcdkgmeomhpaaGreatDoorMa5
set_option linter.unusedVariables false
set_option linter.unusedSimpArgs false

namespace Go.Proofs.YtgdcdkgmeomhpaaGreatDoor
open Go Go.Vs
set_option maxRecDepth 20000
attribute [local irreducible] chooseK

/-- A key and a colon, at a byte that is no white space. -/
def keyS (s : List UInt8) (j : Nat) (a : List JM) : Except (Nat × Nat) (List UInt8 × Nat) :=
  if byteAt s j ≠ 34 then .error (wrongR s j)
  else if (strP s j).2.2 ≠ 0 then .error ((strP s j).2.1, (strP s j).2.2)
  else if a.any (fun m => m.keyOf == (strP s j).1) then .error (j, 10)
  else if byteAt s (skipSp s (strP s j).2.1) = 58 then .ok ((strP s j).1, skipSp s (strP s j).2.1 + 1)
  else .error (wrongR s (skipSp s (strP s j).2.1))

theorem memS_key (rec : Nat → Res JV) (s : List UInt8) (i : Nat) (a : List JM) : memS rec s i a = match keyS s (skipSp s i) a with
    | .error x => .error x
    | .ok (k, i1) => match rec i1 with
      | .error x => .error x
      | .ok (v, i2) => .ok (.mk k v (skipSp s i), i2) := by
  unfold memS keyS
  by_cases h1 : byteAt s (skipSp s i) ≠ 34
  · rw [if_pos h1, if_pos h1]
  rw [if_neg h1, if_neg h1]
  by_cases h2 : (strP s (skipSp s i)).2.2 ≠ 0
  · rw [if_pos h2, if_pos h2]
  rw [if_neg h2, if_neg h2]
  by_cases h3 : a.any (fun m => m.keyOf == (strP s (skipSp s i)).1) = true
  · rw [if_pos h3, if_pos h3]
  rw [if_neg h3, if_neg h3]
  by_cases h4 : byteAt s (skipSp s (strP s (skipSp s i)).2.1) = 58
  · rw [if_pos h4, if_pos h4]; rfl
  · rw [if_neg h4, if_neg h4]

def keyV : Except (Nat × Nat) (List UInt8 × Nat) → V
  | .ok (k, i) => .tup [.str k, .int .i64 (i : Int), .int .i64 0]
  | .error x => .tup [.str [], .int .i64 (x.1 : Int), .int .i64 (x.2 : Int)]

theorem hasPre1 (s : List UInt8) (i : Nat) (c : UInt8) (hc : c ≠ 0) : hasPre (s.drop i) [c] = decide (byteAt s i = c) := by
  unfold hasPre byteAt
  by_cases h : i < s.length
  · rw [drop_getD 0 h, Bool.eq_iff_iff]
    simp
  · rw [List.drop_of_length_le (by omega), List.getD_eq_getElem?_getD, List.getElem?_eq_none (by omega)]
    simp
    exact fun e => hc e.symm

theorem r11key_C {s : List UInt8} {i : Nat} {c0 c1 c2 c3 c4 c6 : V} {nn : Bool} {tk : Tk} {ms : List JM} {σ : St} {Q : Out → St → Prop} (hi : i ≤ s.length) (hs : s.length ≤ big) (hl : ms.length ≤ big) (h : Q (.ret (keyV (keyS s i ms))) σ) :
    C Xc 55 [.str s, .int .i64 (i : Int), .agg [c0, c1, c2, c3, c4, .slc nn (encMs ms) tk, c6]] σ Q := by
  have hs' := hs
  unfold big at hs' hl
  unfold keyS at h
  refine bodyW cf_r11key (Eq.refl true) fun hw => ?_
  have bad : byteAt s i ≠ 34 → Q (.ret (keyV (.error (wrongR s i)))) σ := fun hb => by rw [if_pos hb] at h; exact h
  have wr : ∀ (j : Nat), wrongR s j = ((wrongR s j).1, (wrongR s j).2) := fun _ => rfl
  simp -implicitDefEqProofs only [vf_r11key, JV.enc, JV.cells, slcE, List.append_assoc, getL, getL0, setL, setL0, List.set_cons_zero, List.set_cons_succ, encMs_len, wset, tailW, tailEnd, isLenV, isOneV, vop, vbin, vbinI, vun, ↓reduceIte, Nat.reduceEqDiff, Nat.reduceAdd, vcells, vcut, cutSK, cutVK, cutNK, fillV, spl, Nat.reduceLeDiff, V.isNil, bne_self_eq_false]
  refine chooseK_split (fun g1 => ?_) (fun g1 => ?_) <;> simp -implicitDefEqProofs only [g1, List.append_assoc, getL, getL0, setL, setL0, List.set_cons_zero, List.set_cons_succ, encMs_len, wset, tailW, tailEnd, isLenV, isOneV, vop, vbin, vbinI, vun, ↓reduceIte, Nat.reduceEqDiff, Nat.reduceAdd, vcells, vcut, cutSK, cutVK, cutNK, fillV, spl, Nat.reduceLeDiff, V.isNil, bne_self_eq_false]
  · refine r11wrong_C hi ?_
    have hb := bad (fun e => by rw [byteAt_end (by simp at g1; omega)] at e; cases e)
    simp -implicitDefEqProofs only [resV, res9, zero7, List.append_assoc, getL, getL0, setL, setL0, List.set_cons_zero, List.set_cons_succ, encMs_len, wset, tailW, tailEnd, isLenV, isOneV, vop, vbin, vbinI, vun, ↓reduceIte, Nat.reduceEqDiff, Nat.reduceAdd, vcells, vcut, cutSK, cutVK, cutNK, fillV, spl, Nat.reduceLeDiff, V.isNil, bne_self_eq_false]
    exact exitNew hw (by rfl) (by rfl) hb
  have hil : i < s.length := by simp at g1; omega
  refine ⟨by omega, ?_⟩
  have hc0 : ((s.getD i 0).toNat : Int) = ((byteAt s i).toNat : Int) := rfl
  refine chooseK_split (fun g2 => ?_) (fun g2 => ?_) <;> simp -implicitDefEqProofs only [g2, List.append_assoc, getL, getL0, setL, setL0, List.set_cons_zero, List.set_cons_succ, encMs_len, wset, tailW, tailEnd, isLenV, isOneV, vop, vbin, vbinI, vun, ↓reduceIte, Nat.reduceEqDiff, Nat.reduceAdd, vcells, vcut, cutSK, cutVK, cutNK, fillV, spl, Nat.reduceLeDiff, V.isNil, bne_self_eq_false]
  · refine r11wrong_C hi ?_
    have hb := bad (fun e => by rw [hc0, e] at g2; cases g2)
    simp -implicitDefEqProofs only [resV, res9, zero7, List.append_assoc, getL, getL0, setL, setL0, List.set_cons_zero, List.set_cons_succ, encMs_len, wset, tailW, tailEnd, isLenV, isOneV, vop, vbin, vbinI, vun, ↓reduceIte, Nat.reduceEqDiff, Nat.reduceAdd, vcells, vcut, cutSK, cutVK, cutNK, fillV, spl, Nat.reduceLeDiff, V.isNil, bne_self_eq_false]
    exact exitNew hw (by rfl) (by rfl) hb
  have h34 : byteAt s i = 34 := UInt8.toNat_inj.1 (by rw [hc0] at g2; simp at g2; show _ = 34; omega)
  rw [if_neg (fun e => e h34)] at h
  clear bad
  have hsp := strP_le hi
  refine r10Parse_C hi hs ?_
  generalize strP s i = r at h hsp ⊢
  obtain ⟨key, to, e⟩ := r
  dsimp only at h hsp ⊢
  simp -implicitDefEqProofs only [List.append_assoc, getL, getL0, setL, setL0, List.set_cons_zero, List.set_cons_succ, encMs_len, wset, tailW, tailEnd, isLenV, isOneV, vop, vbin, vbinI, vun, ↓reduceIte, Nat.reduceEqDiff, Nat.reduceAdd, vcells, vcut, cutSK, cutVK, cutNK, fillV, spl, Nat.reduceLeDiff, V.isNil, bne_self_eq_false]
  refine chooseK_split (fun g3 => ?_) (fun g3 => ?_) <;> simp -implicitDefEqProofs only [g3, List.append_assoc, getL, getL0, setL, setL0, List.set_cons_zero, List.set_cons_succ, encMs_len, wset, tailW, tailEnd, isLenV, isOneV, vop, vbin, vbinI, vun, ↓reduceIte, Nat.reduceEqDiff, Nat.reduceAdd, vcells, vcut, cutSK, cutVK, cutNK, fillV, spl, Nat.reduceLeDiff, V.isNil, bne_self_eq_false]
  · rw [if_pos (by simp at g3; omega)] at h
    exact exitNew hw (by rfl) (by rfl) h
  have he : e = 0 := by simp at g3; omega
  rw [if_neg (by omega)] at h
  have hto := hsp.2 he
  refine LoopP.intro (fun n' fr σ' => ∃ (j : Nat), j ≤ ms.length ∧ n' = ms.length - j ∧ (∀ i, i < j → ((ms.getD i jmnull).keyOf == key) = false) ∧ fr 0 = .str s ∧ fr 1 = .int .i64 (i : Int) ∧ fr 5 = .ref (some (σ.objs.length, 0)) ∧ fr 10 = .str key ∧ fr 11 = .int .i64 (to : Int) ∧
      fr 13 = .int .i64 (j : Int) ∧ σ' = ⟨σ.objs ++ [[c0, c1, c2, c3, c4, .slc nn (encMs ms) tk, c6]], σ.maps, σ.toks, σ.tys ++ [26], σ.tts⟩) ms.length ?_ ?_
  · exact ⟨0, by omega, by omega, fun i hi => by omega, rfl, rfl, rfl, rfl, rfl, rfl, rfl⟩
  rintro n' fr σ' ⟨j, hj, rfl, hno, f0, f1, f5, f10, f11, f13, rfl⟩
  simp -implicitDefEqProofs only [f0, f1, f5, f10, f11, f13, List.append_assoc, getL, getL0, setL, setL0, List.set_cons_zero, List.set_cons_succ, encMs_len, slcE, wset, tailW, tailEnd, isLenV, isOneV, vop, vbin, vbinI, vun, ↓reduceIte, Nat.reduceEqDiff, Nat.reduceAdd, vcells, vcut, cutSK, cutVK, cutNK, fillV, spl, Nat.reduceLeDiff, V.isNil, bne_self_eq_false]
  refine chooseK_split (fun g4 => ?_) (fun g4 => ?_) <;> simp -implicitDefEqProofs only [g4, f0, f1, f5, f10, f11, f13, List.append_assoc, getL, getL0, setL, setL0, List.set_cons_zero, List.set_cons_succ, encMs_len, slcE, wset, tailW, tailEnd, isLenV, isOneV, vop, vbin, vbinI, vun, ↓reduceIte, Nat.reduceEqDiff, Nat.reduceAdd, vcells, vcut, cutSK, cutVK, cutNK, fillV, spl, Nat.reduceLeDiff, V.isNil, bne_self_eq_false]
  · have hjl : j < ms.length := by simp at g4; omega
    refine ⟨by omega, encMs_cells ms, ?_⟩
    rw [encMs_get ms j hjl, show ms.getD j (.mk [] (jv 0 false 0 [] [] [] 0) 0) = ms.getD j jmnull from rfl]
    have hm := getD_mem (d := jmnull) hjl
    generalize hmj : ms.getD j jmnull = mj at *
    obtain ⟨kk, vv, aa⟩ := mj
    simp -implicitDefEqProofs only [JM.enc, JM.cells, f0, f1, f5, f10, f11, f13, List.append_assoc, getL, getL0, setL, setL0, List.set_cons_zero, List.set_cons_succ, encMs_len, slcE, wset, tailW, tailEnd, isLenV, isOneV, vop, vbin, vbinI, vun, ↓reduceIte, Nat.reduceEqDiff, Nat.reduceAdd, vcells, vcut, cutSK, cutVK, cutNK, fillV, spl, Nat.reduceLeDiff, V.isNil, bne_self_eq_false]
    refine chooseK_split (fun g5 => ?_) (fun g5 => ?_) <;> simp -implicitDefEqProofs only [g5, f0, f1, f5, f10, f11, f13, List.append_assoc, getL, getL0, setL, setL0, List.set_cons_zero, List.set_cons_succ, encMs_len, slcE, wset, tailW, tailEnd, isLenV, isOneV, vop, vbin, vbinI, vun, ↓reduceIte, Nat.reduceEqDiff, Nat.reduceAdd, vcells, vcut, cutSK, cutVK, cutNK, fillV, spl, Nat.reduceLeDiff, V.isNil, bne_self_eq_false]
    · have : ms.any (fun m => m.keyOf == key) = true := List.any_eq_true.2 ⟨_, hm, by simpa [JM.keyOf] using g5⟩
      rw [if_pos this] at h
      exact exitNew hw (by rfl) (by rfl) h
    · rw [wrap64 (by omega)]
      refine ⟨ms.length - (j + 1), by omega, j + 1, by omega, rfl, fun i hi => ?_, f0, f1, f5, f10, f11, rfl, rfl⟩
      by_cases e : i = j
      · subst e; rw [hmj]; exact g5
      · exact hno i (by omega)
  have hj2 : j = ms.length := by simp at g4; omega
  have hany : ms.any (fun m => m.keyOf == key) = false := by
    rw [List.any_eq_false]
    intro m hm
    obtain ⟨i, hi, rfl⟩ := List.getElem_of_mem hm
    have := hno i (by omega)
    rw [List.getD_eq_getElem?_getD, List.getElem?_eq_getElem hi] at this
    simpa using this
  rw [hany, if_neg (by simp)] at h
  refine r11spaces_C hsp.1 hs ?_
  have hle := skipSp_le hsp.1
  simp -implicitDefEqProofs only [f0, f1, f5, f10, f11, f13, List.append_assoc, getL, getL0, setL, setL0, List.set_cons_zero, List.set_cons_succ, encMs_len, slcE, wset, tailW, tailEnd, isLenV, isOneV, vop, vbin, vbinI, vun, ↓reduceIte, Nat.reduceEqDiff, Nat.reduceAdd, vcells, vcut, cutSK, cutVK, cutNK, fillV, spl, Nat.reduceLeDiff, V.isNil, bne_self_eq_false]
  refine r06Has_C hle hs (by decide) ?_
  rw [hasPre1 _ _ _ (by decide)]
  by_cases h58 : byteAt s (skipSp s to) = 58
  · rw [if_pos h58] at h
    rw [decide_eq_true h58]
    simp -implicitDefEqProofs only [f0, f1, f5, f10, f11, f13, List.append_assoc, getL, getL0, setL, setL0, List.set_cons_zero, List.set_cons_succ, encMs_len, slcE, wset, tailW, tailEnd, isLenV, isOneV, vop, vbin, vbinI, vun, ↓reduceIte, Nat.reduceEqDiff, Nat.reduceAdd, vcells, vcut, cutSK, cutVK, cutNK, fillV, spl, Nat.reduceLeDiff, V.isNil, bne_self_eq_false]
    rw [wrap64 (by omega)]
    exact exitNew hw (by rfl) (by rfl) h
  · rw [if_neg h58] at h
    rw [decide_eq_false h58]
    simp -implicitDefEqProofs only [f0, f1, f5, f10, f11, f13, List.append_assoc, getL, getL0, setL, setL0, List.set_cons_zero, List.set_cons_succ, encMs_len, slcE, wset, tailW, tailEnd, isLenV, isOneV, vop, vbin, vbinI, vun, ↓reduceIte, Nat.reduceEqDiff, Nat.reduceAdd, vcells, vcut, cutSK, cutVK, cutNK, fillV, spl, Nat.reduceLeDiff, V.isNil, bne_self_eq_false]
    refine r11wrong_C hle ?_
    simp -implicitDefEqProofs only [resV, res9, zero7, f0, f1, f5, f10, f11, f13, List.append_assoc, getL, getL0, setL, setL0, List.set_cons_zero, List.set_cons_succ, encMs_len, slcE, wset, tailW, tailEnd, isLenV, isOneV, vop, vbin, vbinI, vun, ↓reduceIte, Nat.reduceEqDiff, Nat.reduceAdd, vcells, vcut, cutSK, cutVK, cutNK, fillV, spl, Nat.reduceLeDiff, V.isNil, bne_self_eq_false]
    exact exitNew hw (by rfl) (by rfl) h
end Go.Proofs.YtgdcdkgmeomhpaaGreatDoor

namespace Go.Proofs.YtgdcdkgmeomhpaaGreatDoor
open Go Go.Vs
set_option maxRecDepth 20000
attribute [local irreducible] chooseK

/-- What a slice that was begun anew is, and in which store. -/
def Fresh (e : TypeId) (σ : St) (ys : List V) (x : V) (σ' : St) : Prop :=
  (ys = [] ∧ x = .slc true [] .full ∧ σ' = σ) ∨ (ys ≠ [] ∧ x = .slc true ys (.own σ.toks.length) ∧ σ' = { σ with toks := σ.toks ++ [ys.length], tts := σ.tts ++ [e] })

theorem vapp_clone {e : TypeId} {sz : Nat} {σ : St} {ys : List V} {K : V → St → Prop} (hy : ∀ y ∈ ys, y.cells.length = sz ∧ y.notTup = true) (hl : ys.length ≤ big) (h : ∀ x σ', Fresh e σ ys x σ' → K x σ') : vapp e sz σ (.slc true [] .full) ys K := by
  refine ⟨hy, ?_⟩
  change _ ∧ _ ∧ _
  refine ⟨fun z hz => (by cases hz), by simpa using hl, ?_⟩
  split
  · rename_i h0; exact h _ _ (.inl ⟨h0, rfl, rfl⟩)
  · rename_i h0; exact h _ _ (.inr ⟨h0, by simp, by simp⟩)
theorem vapp_fresh {e : TypeId} {sz : Nat} {σ σ' : St} {ys : List V} {x v : V} {K : V → St → Prop} (hF : Fresh e σ ys x σ') (hw : σ.tts.length = σ.toks.length) (hy : ∀ y ∈ ys, y.cells.length = sz) (hv : v.cells.length = sz) (hv2 : v.notTup = true) (hl : ys.length + 1 ≤ big)
    (h : K (.slc true (ys ++ [v]) (.own σ.toks.length)) { σ with toks := σ.toks ++ [ys.length + 1], tts := σ.tts ++ [e] }) : vapp e sz σ' x [v] K := by
  rcases hF with ⟨rfl, rfl, rfl⟩ | ⟨h0, rfl, rfl⟩
  · refine ⟨fun z hz => by rw [List.mem_singleton.1 hz]; exact ⟨hv, hv2⟩, ?_⟩
    change _ ∧ _ ∧ _
    refine ⟨fun z hz => (by cases hz), by simp [big], ?_⟩
    rw [if_neg (by simp)]
    simpa using h
  · refine ⟨fun z hz => by rw [List.mem_singleton.1 hz]; exact ⟨hv, hv2⟩, hy, h0, hl, by simp, by simp [← hw], ?_⟩
    simpa [List.set_append_right] using h
theorem Fresh.objs {e : TypeId} {σ σ' : St} {ys : List V} {x : V} (hF : Fresh e σ ys x σ') : σ'.objs = σ.objs := by
  rcases hF with ⟨_, _, rfl⟩ | ⟨_, _, rfl⟩ <;> rfl

/-- An error has a number. -/
def ErrR {α : Type} (s : List UInt8) (rec : Nat → Res α) : Prop := ∀ i x, i ≤ s.length → rec i = .error x → x.2 ≠ 0
theorem wrongR_ne (s : List UInt8) (i : Nat) : (wrongR s i).2 ≠ 0 := by
  unfold wrongR
  dsimp only
  split <;> decide
theorem loopS_err {α : Type} {s : List UInt8} {e : UInt8} (he : e ≠ 0) {step : Nat → α → Res α} (hst : ∀ i a a' i1, i ≤ s.length → step i a = .ok (a', i1) → i ≤ i1 ∧ i1 ≤ s.length)
    (hse : ∀ i a x, i ≤ s.length → step i a = .error x → x.2 ≠ 0) : ∀ (n i : Nat) (a : α) (x : Nat × Nat), i ≤ s.length → s.length < i + n → loopS step s e n i a = .error x → x.2 ≠ 0
  | 0, i, a, x, h1, h2, _ => by omega
  | n + 1, i, a, x, h1, h2, h => by
    rw [loopS] at h
    cases hs : step i a with
    | error y => rw [hs] at h; cases h; exact hse i a _ h1 hs
    | ok r =>
      obtain ⟨a', i1⟩ := r
      rw [hs] at h
      have hp := hst i a a' i1 h1 hs
      have hl := skipSp_le hp.2
      have hg := skipSp_ge s i1
      simp only at h
      split at h
      · cases h
      split at h
      · rename_i hc
        have := byteAt_lt (by decide) hc
        exact loopS_err he hst hse n _ a' x (by omega) (by omega) h
      · cases h; exact wrongR_ne _ _
theorem elemS_err {α : Type} {s : List UInt8} {e : UInt8} (he : e ≠ 0) {step : Nat → α → Res α} (hst : ∀ i a a' i1, i ≤ s.length → step i a = .ok (a', i1) → i ≤ i1 ∧ i1 ≤ s.length)
    (hse : ∀ i a x, i ≤ s.length → step i a = .error x → x.2 ≠ 0) {i : Nat} {a : α} {x : Nat × Nat} (hi : i < s.length) (h : elemS step s e i a = .error x) : x.2 ≠ 0 := by
  have hl := skipSp_le (s := s) (i := i + 1) (by omega)
  unfold elemS at h
  split at h
  · cases h
  · exact loopS_err he hst hse _ _ a x hl (by omega) h
theorem arrStep_err {s : List UInt8} {rec : Nat → Res JV} (h : ErrR s rec) : ∀ i a x, i ≤ s.length → arrStep rec i a = .error x → x.2 ≠ 0 := by
  intro i a x hi hs
  unfold arrStep at hs
  cases hr : rec i with
  | error y => rw [hr] at hs; cases hs; exact h i _ hi hr
  | ok r => rw [hr] at hs; cases hs
theorem keyS_err {s : List UInt8} {j : Nat} {a : List JM} {x : Nat × Nat} (h : keyS s j a = .error x) : x.2 ≠ 0 := by
  unfold keyS at h
  split at h
  · cases h; exact wrongR_ne _ _
  split at h
  · rename_i h2; cases h; exact h2
  split at h
  · cases h; simp
  split at h
  · cases h
  · cases h; exact wrongR_ne _ _
theorem keyS_le {s : List UInt8} {j i1 : Nat} {a : List JM} {k : List UInt8} (hj : j ≤ s.length) (h : keyS s j a = .ok (k, i1)) : j < i1 ∧ i1 ≤ s.length := by
  unfold keyS at h
  split at h
  · cases h
  split at h
  · cases h
  rename_i h0
  have h0 : (strP s j).2.2 = 0 := Classical.byContradiction h0
  split at h
  · cases h
  split at h
  · rename_i h1
    have hs := strP_le hj
    have := hs.2 h0
    have := skipSp_ge s (strP s j).2.1
    have := byteAt_lt (by decide) h1
    cases h
    omega
  · cases h
theorem objStep_err {s : List UInt8} {rec : Nat → Res JV} (h : ErrR s rec) : ∀ i a x, i ≤ s.length → objStep rec s i a = .error x → x.2 ≠ 0 := by
  intro i a x hi hs
  unfold objStep at hs
  rw [memS_key] at hs
  have hle := skipSp_le hi
  cases hk : keyS s (skipSp s i) a with
  | error y => rw [hk] at hs; cases hs; exact keyS_err hk
  | ok r =>
    obtain ⟨k, i1⟩ := r
    rw [hk] at hs
    simp only at hs
    have := keyS_le hle hk
    cases hr : rec i1 with
    | error y => rw [hr] at hs; cases hs; exact h i1 _ this.2 hr
    | ok r => rw [hr] at hs; cases hs
theorem valueF_err {lim : Bool} {rec : Nat → Res JV} {s : List UInt8} (hp : ProgR s rec) (h : lim = false → ErrR s rec) : ErrR s (valueF lim rec s) := by
  intro i x hi hv
  have hl := skipSp_le hi
  unfold valueF at hv
  dsimp only at hv
  split at hv
  · cases hv; simp
  rename_i hlim
  split at hv
  · unfold wordS at hv; split at hv <;> cases hv; simp
  split at hv
  · unfold wordS at hv; split at hv <;> cases hv; simp
  split at hv
  · unfold wordS at hv; split at hv <;> cases hv; simp
  split at hv
  · split at hv
    · cases hv
    · rename_i h0; cases hv; exact h0
  split at hv
  · split at hv <;> cases hv; simp
  have hlf : (byteAt s (skipSp s i) = 91 ∨ byteAt s (skipSp s i) = 123) → lim = false := fun hc => by
    cases hlm : lim with
    | false => rfl
    | true =>
      rw [hlm] at hlim
      rcases hc with hc | hc <;> (rw [hc] at hlim; exact absurd (by decide) hlim)
  split at hv
  · rename_i hb
    have hlt := byteAt_lt (by decide) hb
    split at hv
    · cases hv
    · rename_i y he
      cases hv
      exact elemS_err (by decide) (arrStep_prog hp) (arrStep_err (h (hlf (.inl hb)))) hlt he
  split at hv
  · rename_i hb
    have hlt := byteAt_lt (by decide) hb
    split at hv
    · cases hv
    · rename_i y he
      cases hv
      exact elemS_err (by decide) (objStep_prog hp) (objStep_err (h (hlf (.inr hb)))) hlt he
  · cases hv; exact wrongR_ne _ _
theorem valueS_err (s : List UInt8) : ∀ k, ErrR s (valueS k s)
  | 0 => valueF_err (lim := true) (rec := fun _ => .error (0, 0)) (fun _ _ _ _ h => by cases h) (fun h => by cases h)
  | k + 1 => valueF_err (lim := false) (valueS_prog s k) (fun _ => valueS_err s k)
theorem valueS_skip (s : List UInt8) (i : Nat) : ∀ k, valueS k s (skipSp s i) = valueS k s i
  | 0 => by rw [valueS, valueS, valueF, valueF, skipSp_idem]
  | k + 1 => by rw [valueS, valueS, valueF, valueF, skipSp_idem]

theorem drop8r (v : JV) (a b : V) : List.drop 8 (v.cells ++ [a, b]) = [b] := by
  rw [show (8 : Nat) = 7 + 1 from rfl, ← List.drop_drop, drop7a]; rfl

theorem drop8s (v : JV) (a : V) : List.drop 8 (v.cells ++ [a]) = [] := List.drop_of_length_le (by simp [JV.len])

/-- The contract of the reference's 'value', at a depth. -/
def ValR (s : List UInt8) (d : Nat) (rec : Nat → Res JV) : Prop :=
  ∀ (i : Nat) (σ : St) (Q : Out → St → Prop), i ≤ s.length → Q (.ret (resV (rec i))) σ → C Xc 19 [.str s, .int .i64 (i : Int), .int .i64 (d : Int)] σ Q

def zero9 : List V := [.int .i64 0, .bool false, .int .i64 0, .str [], .slc false [] .no, .slc false [] .no, .int .i64 0, .int .i64 0, .int .i64 0]
theorem take9r (v : JV) (a b : V) : List.take 9 (v.cells ++ [a, b]) = v.cells ++ [a, b] := List.take_of_length_le (by simp [JV.len])
theorem encL_ct (l : List JV) : ∀ y ∈ encL l, y.cells.length = 7 ∧ y.notTup = true := by
  induction l with
  | nil => intro y hy; cases hy
  | cons m r ih =>
    intro y hy
    simp only [encL, List.mem_cons] at hy
    rcases hy with rfl | hy
    · exact ⟨JV.len m, rfl⟩
    · exact ih y hy
theorem encMs_ct (l : List JM) : ∀ y ∈ encMs l, y.cells.length = 9 ∧ y.notTup = true := by
  induction l with
  | nil => intro y hy; cases hy
  | cons m r ih =>
    intro y hy
    simp only [encMs, List.mem_cons] at hy
    rcases hy with rfl | hy
    · exact ⟨JM.len m, rfl⟩
    · exact ih y hy

theorem arr_C {s : List UInt8} {d : Nat} {rec : Nat → Res JV} (hs : s.length ≤ big) (hd : d ≤ 200) (hrec : ValR s (d + 1) rec) (hprog : ProgR s rec) (herr : ErrR s rec) (hsk : ∀ i, rec (skipSp s i) = rec i) {i : Nat} (hi : i < s.length) (h91 : bN s i = 91) {σ : St} {Q : Out → St → Prop}
    (h : Q (.ret (resV (match elemS (arrStep rec) s 93 i [] with | .ok (is, i1) => .ok (jv 4 false 0 [] is [] i, i1) | .error x => .error x))) σ) :
    C Xc 40 [.str s, .int .i64 (i : Int), .int .i64 (d : Int)] σ Q := by
  have hs' := hs
  unfold big at hs'
  refine bodyW cf_r11list (Eq.refl true) fun hw => ?_
  have hc0 : ((s.getD i 0).toNat : Int) = 91 := by show (bN s i : Int) = 91; omega
  have e0 : ((91 : Int) == 123) = false := rfl
  simp -implicitDefEqProofs only [vf_r11list, hc0, e0, List.append_assoc, getL, getL0, setL, setL0, List.set_cons_zero, List.set_cons_succ, wset, tailW, tailEnd, isLenV, isOneV, vop, vbin, vbinI, vun, ↓reduceIte, Nat.reduceEqDiff, Nat.reduceAdd, vcells, vcut, cutSK, cutVK, cutNK, fillV, spl, Nat.reduceLeDiff, V.isNil, bne_self_eq_false]
  refine ⟨by omega, ?_⟩
  rw [wrap64 (by omega), show (i : Int) + 1 = ((i + 1 : Nat) : Int) by omega]
  refine r11spaces_C (by omega) hs ?_
  have hle := skipSp_le (s := s) (i := i + 1) (by omega)
  simp -implicitDefEqProofs only [List.append_assoc, getL, getL0, setL, setL0, List.set_cons_zero, List.set_cons_succ, wset, tailW, tailEnd, isLenV, isOneV, vop, vbin, vbinI, vun, ↓reduceIte, Nat.reduceEqDiff, Nat.reduceAdd, vcells, vcut, cutSK, cutVK, cutNK, fillV, spl, Nat.reduceLeDiff, V.isNil, bne_self_eq_false]
  refine r06Has_C hle hs (by decide) ?_
  rw [hasPre1 _ _ _ (by decide)]
  unfold elemS at h
  by_cases h93 : byteAt s (skipSp s (i + 1)) = 93
  · rw [if_pos h93] at h
    rw [decide_eq_true h93]
    simp -implicitDefEqProofs only [List.append_assoc, getL, getL0, setL, setL0, List.set_cons_zero, List.set_cons_succ, wset, tailW, tailEnd, isLenV, isOneV, vop, vbin, vbinI, vun, ↓reduceIte, Nat.reduceEqDiff, Nat.reduceAdd, vcells, vcut, cutSK, cutVK, cutNK, fillV, spl, Nat.reduceLeDiff, V.isNil, bne_self_eq_false]
    rw [wrap64 (by omega)]
    exact exitRes0 hw h
  rw [if_neg h93] at h
  rw [decide_eq_false h93]
  simp -implicitDefEqProofs only [List.append_assoc, getL, getL0, setL, setL0, List.set_cons_zero, List.set_cons_succ, wset, tailW, tailEnd, isLenV, isOneV, vop, vbin, vbinI, vun, ↓reduceIte, Nat.reduceEqDiff, Nat.reduceAdd, vcells, vcut, cutSK, cutVK, cutNK, fillV, spl, Nat.reduceLeDiff, V.isNil, bne_self_eq_false]
  refine LoopP.intro (fun n fr σ' => ∃ (j : Nat) (a : List JV) (tk : Tk) (X : List (List V)) (Y U : List TypeId) (T : List Nat), j ≤ s.length ∧ s.length < j + n ∧ a.length + 1 ≤ j ∧ U.length = T.length ∧ Q (.ret (resV (match loopS (arrStep rec) s 93 n j a with | .ok (is, i1) => .ok (jv 4 false 0 [] is [] i, i1) | .error x => .error x))) σ ∧
      fr 0 = .str s ∧ fr 2 = .int .i64 (d : Int) ∧ fr 6 = .ref (some (σ.objs.length, 0)) ∧ fr 7 = .ref (some (σ.objs.length + 1, 0)) ∧ fr 8 = .str [93] ∧ fr 9 = .int .i64 (j : Int) ∧
      σ' = ⟨σ.objs ++ (zero9 :: [.int .i64 4, .bool false, .int .i64 0, .str [], .slc (!a.isEmpty) (encL a) tk, .slc false [] .no, .int .i64 (i : Int)] :: X), σ.maps, σ.toks ++ T, σ.tys ++ Y, σ.tts ++ U⟩) (s.length + 1 - skipSp s (i + 1))
    ⟨skipSp s (i + 1), [], .no, [], [53, 26], [], [], hle, by omega, by have := skipSp_ge s (i + 1); simp; omega, rfl, h, rfl, rfl, rfl, rfl, rfl, rfl, by simp [zero9, encL]⟩ ?_
  clear h
  rintro n fr σ' ⟨j, a, tk, X, Y, U, T, hj, hjn, haj, hUT, h, f0, f2, f6, f7, f8, f9, rfl⟩
  obtain ⟨n, rfl⟩ : ∃ m, n = m + 1 := ⟨n - 1, by omega⟩
  rw [loopS] at h
  have hlj := skipSp_le hj
  have e45 : ((4 : Int) == 5) = false := rfl
  simp -implicitDefEqProofs only [f0, f2, f6, f7, f8, f9, List.append_assoc, getL, getL0, setL, setL0, List.set_cons_zero, List.set_cons_succ, wset, tailW, tailEnd, isLenV, isOneV, vop, vbin, vbinI, vun, ↓reduceIte, Nat.reduceEqDiff, Nat.reduceAdd, vcells, vcut, cutSK, cutVK, cutNK, fillV, spl, Nat.reduceLeDiff, V.isNil, bne_self_eq_false]
  refine r11spaces_C hj hs ?_
  simp -implicitDefEqProofs only [f0, f2, f6, f7, f8, f9, List.append_assoc, getL, getL0, setL, setL0, List.set_cons_zero, List.set_cons_succ, e45, wset, tailW, tailEnd, isLenV, isOneV, vop, vbin, vbinI, vun, ↓reduceIte, Nat.reduceEqDiff, Nat.reduceAdd, vcells, vcut, cutSK, cutVK, cutNK, fillV, spl, Nat.reduceLeDiff, V.isNil, bne_self_eq_false]
  rw [wrap64 (by omega), show (d : Int) + 1 = ((d + 1 : Nat) : Int) by omega]
  refine hrec (skipSp s j) _ _ hlj ?_
  rw [hsk]
  unfold arrStep at h
  cases hr : rec j with
  | error x =>
    rw [hr] at h
    have he : ((x.2 : Int) != 0) = true := by
      have := herr j x hj hr
      simpa using this
    simp -implicitDefEqProofs only [resV, res9, zero7, zero9, he, f0, f2, f6, f7, f8, f9, List.append_assoc, getL, getL0, setL, setL0, List.set_cons_zero, List.set_cons_succ, wset, tailW, tailEnd, isLenV, isOneV, vop, vbin, vbinI, vun, ↓reduceIte, Nat.reduceEqDiff, Nat.reduceAdd, vcells, vcut, cutSK, cutVK, cutNK, fillV, spl, Nat.reduceLeDiff, V.isNil, bne_self_eq_false]
    exact exitRes hw h
  | ok r =>
    obtain ⟨v, i1⟩ := r
    rw [hr] at h
    simp only at h
    have hp := hprog j v i1 hj hr
    have hl1 := skipSp_le hp.2
    have hg1 := skipSp_ge s i1
    have e00 : ((0 : Int) != 0) = false := rfl
    have e0' : (([] : List V).length = 0) := rfl
    simp -implicitDefEqProofs only [resV, res9, take9r, JV.len, take7a, take7, drop7a, drop8r, f0, f2, f6, f7, f8, f9, List.append_assoc, getL, getL0, setL, setL0, List.set_cons_zero, List.set_cons_succ, e00, e45, wset, tailW, tailEnd, isLenV, isOneV, vop, vbin, vbinI, vun, ↓reduceIte, Nat.reduceEqDiff, Nat.reduceAdd, vcells, vcut, cutSK, cutVK, cutNK, fillV, spl, Nat.reduceLeDiff, V.isNil, bne_self_eq_false]
    refine ⟨fun x hx => (by cases hx), fun x hx => (by rw [List.mem_singleton.1 hx]; exact ⟨JV.len v, rfl⟩), vapp_clone (encL_ct a) (by rw [encL_len]; unfold big; omega) fun x2 σ2 hF => ?_⟩
    have hO := hF.objs
    obtain ⟨O2, M2, T2, Y2, U2⟩ := σ2
    simp only at hO
    subst hO
    simp -implicitDefEqProofs only [take9r, JV.len, take7a, take7, drop7a, drop8r, f0, f2, f6, f7, f8, f9, List.append_assoc, getL, getL0, setL, setL0, List.set_cons_zero, List.set_cons_succ, wset, tailW, tailEnd, isLenV, isOneV, vop, vbin, vbinI, vun, ↓reduceIte, Nat.reduceEqDiff, Nat.reduceAdd, vcells, vcut, cutSK, cutVK, cutNK, fillV, spl, Nat.reduceLeDiff, V.isNil, bne_self_eq_false]
    refine ⟨fun x hx => (by rw [List.mem_singleton.1 hx]; exact ⟨JV.len v, rfl⟩), vapp_fresh hF (by simp [hw.2, hUT]) (encL_cells a) (JV.len v) rfl (by rw [encL_len]; unfold big; omega) ?_⟩
    clear hF
    simp -implicitDefEqProofs only [f0, f2, f6, f7, f8, f9, List.append_assoc, getL, getL0, setL, setL0, List.set_cons_zero, List.set_cons_succ, take9r, JV.len, take7a, take7, drop7a, drop8r, wset, tailW, tailEnd, isLenV, isOneV, vop, vbin, vbinI, vun, ↓reduceIte, Nat.reduceEqDiff, Nat.reduceAdd, vcells, vcut, cutSK, cutVK, cutNK, fillV, spl, Nat.reduceLeDiff, V.isNil, bne_self_eq_false]
    refine r11spaces_C hp.2 hs ?_
    simp -implicitDefEqProofs only [f0, f2, f6, f7, f8, f9, List.append_assoc, getL, getL0, setL, setL0, List.set_cons_zero, List.set_cons_succ, take9r, JV.len, take7a, take7, drop7a, drop8r, wset, tailW, tailEnd, isLenV, isOneV, vop, vbin, vbinI, vun, ↓reduceIte, Nat.reduceEqDiff, Nat.reduceAdd, vcells, vcut, cutSK, cutVK, cutNK, fillV, spl, Nat.reduceLeDiff, V.isNil, bne_self_eq_false]
    refine r06Has_C hl1 hs (by decide) ?_
    rw [hasPre1 _ _ _ (by decide)]
    have hsn : ∀ tk, V.slc true (encL a ++ [.agg v.cells]) tk = V.slc (!(a ++ [v]).isEmpty) (encL (a ++ [v])) tk := fun tk => by
      rw [encL_snoc]; simp
    by_cases h93' : byteAt s (skipSp s i1) = 93
    · rw [if_pos h93'] at h
      rw [decide_eq_true h93']
      simp -implicitDefEqProofs only [f0, f2, f6, f7, f8, f9, List.append_assoc, getL, getL0, setL, setL0, List.set_cons_zero, List.set_cons_succ, take9r, JV.len, take7a, take7, drop7a, drop8r, zero9, wset, tailW, tailEnd, isLenV, isOneV, vop, vbin, vbinI, vun, ↓reduceIte, Nat.reduceEqDiff, Nat.reduceAdd, vcells, vcut, cutSK, cutVK, cutNK, fillV, spl, Nat.reduceLeDiff, V.isNil, bne_self_eq_false]
      rw [wrap64 (by omega)]
      refine exitNewT (out' := .ret (resV (.ok (jv 4 false 0 [] (a ++ [v]) [] i, skipSp s i1 + 1)))) hw ?_ (resV_fits _ _ _ _) h
      have hcl : cleanL σ.toks.length (encL a ++ [.agg v.cells]) = encL a ++ [.agg v.cells] := by rw [← encL_snoc]; exact encL_clean _ _
      simp only [Out.clean, V.clean, cleanL, hcl, Tk.clean, if_neg (show ¬ (σ.toks.length + T.length < σ.toks.length) by omega)]
      simp [resV, res9, jv, JV.cells, slcE, encL_snoc, encMs, Tk.clean]
    rw [if_neg h93'] at h
    rw [decide_eq_false h93']
    simp -implicitDefEqProofs only [f0, f2, f6, f7, f8, f9, List.append_assoc, getL, getL0, setL, setL0, List.set_cons_zero, List.set_cons_succ, take9r, JV.len, take7a, take7, drop7a, drop8r, wset, tailW, tailEnd, isLenV, isOneV, vop, vbin, vbinI, vun, ↓reduceIte, Nat.reduceEqDiff, Nat.reduceAdd, vcells, vcut, cutSK, cutVK, cutNK, fillV, spl, Nat.reduceLeDiff, V.isNil, bne_self_eq_false]
    refine r06Has_C hl1 hs (by decide) ?_
    rw [hasPre1 _ _ _ (by decide)]
    by_cases h44 : byteAt s (skipSp s i1) = 44
    · rw [if_pos h44] at h
      rw [decide_eq_true h44]
      have := byteAt_lt (by decide) h44
      simp -implicitDefEqProofs only [f0, f2, f6, f7, f8, f9, List.append_assoc, getL, getL0, setL, setL0, List.set_cons_zero, List.set_cons_succ, take9r, JV.len, take7a, take7, drop7a, drop8r, wset, tailW, tailEnd, isLenV, isOneV, vop, vbin, vbinI, vun, ↓reduceIte, Nat.reduceEqDiff, Nat.reduceAdd, vcells, vcut, cutSK, cutVK, cutNK, fillV, spl, Nat.reduceLeDiff, V.isNil, bne_self_eq_false]
      rw [wrap64 (by omega)]
      refine ⟨n, by omega, skipSp s i1 + 1, a ++ [v], .own (σ.toks.length + T.length), X ++ [v.cells ++ [.int .i64 (i1 : Int), .int .i64 0]], Y ++ [53], U ++ [26], T ++ [(encL a).length + 1], by omega, by omega, ?_, ?_, h, f0, f2, f6, f7, f8, rfl, ?_⟩
      · rw [List.length_append]; simp; omega
      · simp [hUT]
      · rw [← hsn]
    · rw [if_neg h44] at h
      rw [decide_eq_false h44]
      simp -implicitDefEqProofs only [f0, f2, f6, f7, f8, f9, List.append_assoc, getL, getL0, setL, setL0, List.set_cons_zero, List.set_cons_succ, take9r, JV.len, take7a, take7, drop7a, drop8r, wset, tailW, tailEnd, isLenV, isOneV, vop, vbin, vbinI, vun, ↓reduceIte, Nat.reduceEqDiff, Nat.reduceAdd, vcells, vcut, cutSK, cutVK, cutNK, fillV, spl, Nat.reduceLeDiff, V.isNil, bne_self_eq_false]
      refine r11wrong_C hl1 ?_
      simp -implicitDefEqProofs only [resV, res9, zero7, zero9, f0, f2, f6, f7, f8, f9, List.append_assoc, getL, getL0, setL, setL0, List.set_cons_zero, List.set_cons_succ, take9r, JV.len, take7a, take7, drop7a, drop8r, wset, tailW, tailEnd, isLenV, isOneV, vop, vbin, vbinI, vun, ↓reduceIte, Nat.reduceEqDiff, Nat.reduceAdd, vcells, vcut, cutSK, cutVK, cutNK, fillV, spl, Nat.reduceLeDiff, V.isNil, bne_self_eq_false]
      exact exitRes hw h
end Go.Proofs.YtgdcdkgmeomhpaaGreatDoor

namespace Go.Proofs.YtgdcdkgmeomhpaaGreatDoor
open Go Go.Vs
set_option maxRecDepth 20000
attribute [local irreducible] chooseK

theorem obj_C {s : List UInt8} {d : Nat} {rec : Nat → Res JV} (hs : s.length ≤ big) (hd : d ≤ 200) (hrec : ValR s (d + 1) rec) (hprog : ProgR s rec) (herr : ErrR s rec) (hsk : ∀ i, rec (skipSp s i) = rec i) {i : Nat} (hi : i < s.length) (h123 : bN s i = 123) {σ : St} {Q : Out → St → Prop}
    (h : Q (.ret (resV (match elemS (objStep rec s) s 125 i [] with | .ok (is, i1) => .ok (jv 5 false 0 [] [] is i, i1) | .error x => .error x))) σ) :
    C Xc 40 [.str s, .int .i64 (i : Int), .int .i64 (d : Int)] σ Q := by
  have hs' := hs
  unfold big at hs'
  refine bodyW cf_r11list (Eq.refl true) fun hw => ?_
  have hc0 : ((s.getD i 0).toNat : Int) = 123 := by show (bN s i : Int) = 123; omega
  have e0 : ((123 : Int) == 123) = true := rfl
  simp -implicitDefEqProofs only [vf_r11list, hc0, e0, List.append_assoc, getL, getL0, setL, setL0, List.set_cons_zero, List.set_cons_succ, wset, tailW, tailEnd, isLenV, isOneV, vop, vbin, vbinI, vun, ↓reduceIte, Nat.reduceEqDiff, Nat.reduceAdd, vcells, vcut, cutSK, cutVK, cutNK, fillV, spl, Nat.reduceLeDiff, V.isNil, bne_self_eq_false]
  refine ⟨by omega, ?_⟩
  rw [wrap64 (by omega), show (i : Int) + 1 = ((i + 1 : Nat) : Int) by omega]
  refine r11spaces_C (by omega) hs ?_
  have hle := skipSp_le (s := s) (i := i + 1) (by omega)
  simp -implicitDefEqProofs only [List.append_assoc, getL, getL0, setL, setL0, List.set_cons_zero, List.set_cons_succ, wset, tailW, tailEnd, isLenV, isOneV, vop, vbin, vbinI, vun, ↓reduceIte, Nat.reduceEqDiff, Nat.reduceAdd, vcells, vcut, cutSK, cutVK, cutNK, fillV, spl, Nat.reduceLeDiff, V.isNil, bne_self_eq_false]
  refine r06Has_C hle hs (by decide) ?_
  rw [hasPre1 _ _ _ (by decide)]
  unfold elemS at h
  by_cases hE : byteAt s (skipSp s (i + 1)) = 125
  · rw [if_pos hE] at h
    rw [decide_eq_true hE]
    simp -implicitDefEqProofs only [List.append_assoc, getL, getL0, setL, setL0, List.set_cons_zero, List.set_cons_succ, wset, tailW, tailEnd, isLenV, isOneV, vop, vbin, vbinI, vun, ↓reduceIte, Nat.reduceEqDiff, Nat.reduceAdd, vcells, vcut, cutSK, cutVK, cutNK, fillV, spl, Nat.reduceLeDiff, V.isNil, bne_self_eq_false]
    rw [wrap64 (by omega)]
    exact exitRes0 hw h
  rw [if_neg hE] at h
  rw [decide_eq_false hE]
  simp -implicitDefEqProofs only [List.append_assoc, getL, getL0, setL, setL0, List.set_cons_zero, List.set_cons_succ, wset, tailW, tailEnd, isLenV, isOneV, vop, vbin, vbinI, vun, ↓reduceIte, Nat.reduceEqDiff, Nat.reduceAdd, vcells, vcut, cutSK, cutVK, cutNK, fillV, spl, Nat.reduceLeDiff, V.isNil, bne_self_eq_false]
  refine LoopP.intro (fun n fr σ' => ∃ (j : Nat) (a : List JM) (tk : Tk) (X : List (List V)) (Y U : List TypeId) (T : List Nat), j ≤ s.length ∧ s.length < j + n ∧ a.length + 1 ≤ j ∧ U.length = T.length ∧ Q (.ret (resV (match loopS (objStep rec s) s 125 n j a with | .ok (is, i1) => .ok (jv 5 false 0 [] [] is i, i1) | .error x => .error x))) σ ∧
      fr 0 = .str s ∧ fr 2 = .int .i64 (d : Int) ∧ fr 6 = .ref (some (σ.objs.length, 0)) ∧ fr 7 = .ref (some (σ.objs.length + 1, 0)) ∧ fr 8 = .str [125] ∧ fr 9 = .int .i64 (j : Int) ∧
      σ' = ⟨σ.objs ++ (zero9 :: [.int .i64 5, .bool false, .int .i64 0, .str [], .slc false [] .no, .slc (!a.isEmpty) (encMs a) tk, .int .i64 (i : Int)] :: X), σ.maps, σ.toks ++ T, σ.tys ++ Y, σ.tts ++ U⟩) (s.length + 1 - skipSp s (i + 1))
    ⟨skipSp s (i + 1), [], .no, [], [53, 26], [], [], hle, by omega, by have := skipSp_ge s (i + 1); simp; omega, rfl, h, rfl, rfl, rfl, rfl, rfl, rfl, by simp [zero9, encMs]⟩ ?_
  clear h
  rintro n fr σ' ⟨j, a, tk, X, Y, U, T, hj, hjn, haj, hUT, h, f0, f2, f6, f7, f8, f9, rfl⟩
  obtain ⟨n, rfl⟩ : ∃ m, n = m + 1 := ⟨n - 1, by omega⟩
  rw [loopS] at h
  have hlj := skipSp_le hj
  have e55 : ((5 : Int) == 5) = true := rfl
  simp -implicitDefEqProofs only [f0, f2, f6, f7, f8, f9, List.append_assoc, getL, getL0, setL, setL0, List.set_cons_zero, List.set_cons_succ, wset, tailW, tailEnd, isLenV, isOneV, vop, vbin, vbinI, vun, ↓reduceIte, Nat.reduceEqDiff, Nat.reduceAdd, vcells, vcut, cutSK, cutVK, cutNK, fillV, spl, Nat.reduceLeDiff, V.isNil, bne_self_eq_false]
  refine r11spaces_C hj hs ?_
  simp -implicitDefEqProofs only [f0, f2, f6, f7, f8, f9, List.append_assoc, getL, getL0, setL, setL0, List.set_cons_zero, List.set_cons_succ, e55, wset, tailW, tailEnd, isLenV, isOneV, vop, vbin, vbinI, vun, ↓reduceIte, Nat.reduceEqDiff, Nat.reduceAdd, vcells, vcut, cutSK, cutVK, cutNK, fillV, spl, Nat.reduceLeDiff, V.isNil, bne_self_eq_false]
  refine r11key_C hlj hs (by omega) ?_
  unfold objStep at h
  rw [memS_key] at h
  have hke : ∀ x, keyS s (skipSp s j) a = .error x → ((x.2 : Int) != 0) = true := fun x hx => by
    have := keyS_err hx
    simpa using this
  have hkl : ∀ k i1, keyS s (skipSp s j) a = .ok (k, i1) → _ := fun k i1 hk => keyS_le hlj hk
  cases hk : keyS s (skipSp s j) a with
  | error x =>
    rw [hk] at h
    simp only at h
    have he := hke x hk
    simp -implicitDefEqProofs only [keyV, he, zero9, f0, f2, f6, f7, f8, f9, List.append_assoc, getL, getL0, setL, setL0, List.set_cons_zero, List.set_cons_succ, wset, tailW, tailEnd, isLenV, isOneV, vop, vbin, vbinI, vun, ↓reduceIte, Nat.reduceEqDiff, Nat.reduceAdd, vcells, vcut, cutSK, cutVK, cutNK, fillV, spl, Nat.reduceLeDiff, V.isNil, bne_self_eq_false]
    exact exitRes hw h
  | ok r0 =>
  obtain ⟨key, ik⟩ := r0
  rw [hk] at h
  simp only at h
  have hik := hkl key ik hk
  have hgj := skipSp_ge s j
  have e00 : ((0 : Int) != 0) = false := rfl
  simp -implicitDefEqProofs only [keyV, e00, f0, f2, f6, f7, f8, f9, List.append_assoc, getL, getL0, setL, setL0, List.set_cons_zero, List.set_cons_succ, wset, tailW, tailEnd, isLenV, isOneV, vop, vbin, vbinI, vun, ↓reduceIte, Nat.reduceEqDiff, Nat.reduceAdd, vcells, vcut, cutSK, cutVK, cutNK, fillV, spl, Nat.reduceLeDiff, V.isNil, bne_self_eq_false]
  rw [wrap64 (by omega), show (d : Int) + 1 = ((d + 1 : Nat) : Int) by omega]
  refine hrec ik _ _ hik.2 ?_
  cases hr : rec ik with
  | error x =>
    rw [hr] at h
    have he : ((x.2 : Int) != 0) = true := by
      have := herr ik x hik.2 hr
      simpa using this
    simp -implicitDefEqProofs only [resV, res9, zero7, zero9, he, f0, f2, f6, f7, f8, f9, List.append_assoc, getL, getL0, setL, setL0, List.set_cons_zero, List.set_cons_succ, wset, tailW, tailEnd, isLenV, isOneV, vop, vbin, vbinI, vun, ↓reduceIte, Nat.reduceEqDiff, Nat.reduceAdd, vcells, vcut, cutSK, cutVK, cutNK, fillV, spl, Nat.reduceLeDiff, V.isNil, bne_self_eq_false]
    exact exitRes hw h
  | ok r =>
    obtain ⟨v, i1⟩ := r
    rw [hr] at h
    simp only at h
    have hp := hprog ik v i1 hik.2 hr
    have hl1 := skipSp_le hp.2
    have hg1 := skipSp_ge s i1
    have e00 : ((0 : Int) != 0) = false := rfl
    have e0' : (([] : List V).length = 0) := rfl
    simp -implicitDefEqProofs only [resV, res9, take9r, JV.len, take7a, take7, drop7a, drop8r, drop8s, f0, f2, f6, f7, f8, f9, List.append_assoc, getL, getL0, setL, setL0, List.set_cons_zero, List.set_cons_succ, e00, e55, wset, tailW, tailEnd, isLenV, isOneV, vop, vbin, vbinI, vun, ↓reduceIte, Nat.reduceEqDiff, Nat.reduceAdd, vcells, vcut, cutSK, cutVK, cutNK, fillV, spl, Nat.reduceLeDiff, V.isNil, bne_self_eq_false]
    refine ⟨fun x hx => (by cases hx), fun x hx => (by rw [List.mem_singleton.1 hx]; exact ⟨JM.len (.mk key v (skipSp s j : Nat)), rfl⟩), vapp_clone (encMs_ct a) (by rw [encMs_len]; unfold big; omega) fun x2 σ2 hF => ?_⟩
    have hO := hF.objs
    obtain ⟨O2, M2, T2, Y2, U2⟩ := σ2
    simp only at hO
    subst hO
    simp -implicitDefEqProofs only [take9r, JV.len, take7a, take7, drop7a, drop8r, drop8s, f0, f2, f6, f7, f8, f9, List.append_assoc, getL, getL0, setL, setL0, List.set_cons_zero, List.set_cons_succ, wset, tailW, tailEnd, isLenV, isOneV, vop, vbin, vbinI, vun, ↓reduceIte, Nat.reduceEqDiff, Nat.reduceAdd, vcells, vcut, cutSK, cutVK, cutNK, fillV, spl, Nat.reduceLeDiff, V.isNil, bne_self_eq_false]
    refine ⟨fun x hx => (by rw [List.mem_singleton.1 hx]; exact ⟨JM.len (.mk key v (skipSp s j : Nat)), rfl⟩), vapp_fresh hF (by simp [hw.2, hUT]) (encMs_cells a) (JM.len (.mk key v (skipSp s j : Nat))) rfl (by rw [encMs_len]; unfold big; omega) ?_⟩
    clear hF
    simp -implicitDefEqProofs only [f0, f2, f6, f7, f8, f9, List.append_assoc, getL, getL0, setL, setL0, List.set_cons_zero, List.set_cons_succ, take9r, JV.len, take7a, take7, drop7a, drop8r, drop8s, wset, tailW, tailEnd, isLenV, isOneV, vop, vbin, vbinI, vun, ↓reduceIte, Nat.reduceEqDiff, Nat.reduceAdd, vcells, vcut, cutSK, cutVK, cutNK, fillV, spl, Nat.reduceLeDiff, V.isNil, bne_self_eq_false]
    refine r11spaces_C hp.2 hs ?_
    simp -implicitDefEqProofs only [f0, f2, f6, f7, f8, f9, List.append_assoc, getL, getL0, setL, setL0, List.set_cons_zero, List.set_cons_succ, take9r, JV.len, take7a, take7, drop7a, drop8r, drop8s, wset, tailW, tailEnd, isLenV, isOneV, vop, vbin, vbinI, vun, ↓reduceIte, Nat.reduceEqDiff, Nat.reduceAdd, vcells, vcut, cutSK, cutVK, cutNK, fillV, spl, Nat.reduceLeDiff, V.isNil, bne_self_eq_false]
    refine r06Has_C hl1 hs (by decide) ?_
    rw [hasPre1 _ _ _ (by decide)]
    have hsn : ∀ tk, V.slc true (encMs a ++ [.agg (V.str key :: (v.cells ++ [.int .i64 (skipSp s j : Int)]))]) tk = V.slc (!(a ++ [JM.mk key v (skipSp s j : Nat)]).isEmpty) (encMs (a ++ [JM.mk key v (skipSp s j : Nat)])) tk := fun tk => by
      rw [encMs_snoc]; simp [JM.cells]
    by_cases hE' : byteAt s (skipSp s i1) = 125
    · rw [if_pos hE'] at h
      rw [decide_eq_true hE']
      simp -implicitDefEqProofs only [f0, f2, f6, f7, f8, f9, List.append_assoc, getL, getL0, setL, setL0, List.set_cons_zero, List.set_cons_succ, take9r, JV.len, take7a, take7, drop7a, drop8r, drop8s, zero9, wset, tailW, tailEnd, isLenV, isOneV, vop, vbin, vbinI, vun, ↓reduceIte, Nat.reduceEqDiff, Nat.reduceAdd, vcells, vcut, cutSK, cutVK, cutNK, fillV, spl, Nat.reduceLeDiff, V.isNil, bne_self_eq_false]
      rw [wrap64 (by omega)]
      refine exitNewT (out' := .ret (resV (.ok (jv 5 false 0 [] [] (a ++ [JM.mk key v (skipSp s j : Nat)]) i, skipSp s i1 + 1)))) hw ?_ (resV_fits _ _ _ _) h
      have hcl : cleanL σ.toks.length (encMs a ++ [.agg (V.str key :: (v.cells ++ [.int .i64 (skipSp s j : Int)]))]) = encMs a ++ [.agg (V.str key :: (v.cells ++ [.int .i64 (skipSp s j : Int)]))] := by
        have := encMs_clean σ.toks.length (a ++ [JM.mk key v (skipSp s j : Nat)])
        rw [encMs_snoc] at this
        exact this
      simp only [Out.clean, V.clean, cleanL, hcl, Tk.clean, if_neg (show ¬ (σ.toks.length + T.length < σ.toks.length) by omega)]
      simp [resV, res9, jv, JV.cells, JM.cells, slcE, encMs_snoc, encL, Tk.clean]
    rw [if_neg hE'] at h
    rw [decide_eq_false hE']
    simp -implicitDefEqProofs only [f0, f2, f6, f7, f8, f9, List.append_assoc, getL, getL0, setL, setL0, List.set_cons_zero, List.set_cons_succ, take9r, JV.len, take7a, take7, drop7a, drop8r, drop8s, wset, tailW, tailEnd, isLenV, isOneV, vop, vbin, vbinI, vun, ↓reduceIte, Nat.reduceEqDiff, Nat.reduceAdd, vcells, vcut, cutSK, cutVK, cutNK, fillV, spl, Nat.reduceLeDiff, V.isNil, bne_self_eq_false]
    refine r06Has_C hl1 hs (by decide) ?_
    rw [hasPre1 _ _ _ (by decide)]
    by_cases h44 : byteAt s (skipSp s i1) = 44
    · rw [if_pos h44] at h
      rw [decide_eq_true h44]
      have := byteAt_lt (by decide) h44
      simp -implicitDefEqProofs only [f0, f2, f6, f7, f8, f9, List.append_assoc, getL, getL0, setL, setL0, List.set_cons_zero, List.set_cons_succ, take9r, JV.len, take7a, take7, drop7a, drop8r, drop8s, wset, tailW, tailEnd, isLenV, isOneV, vop, vbin, vbinI, vun, ↓reduceIte, Nat.reduceEqDiff, Nat.reduceAdd, vcells, vcut, cutSK, cutVK, cutNK, fillV, spl, Nat.reduceLeDiff, V.isNil, bne_self_eq_false]
      rw [wrap64 (by omega)]
      refine ⟨n, by omega, skipSp s i1 + 1, a ++ [JM.mk key v (skipSp s j : Nat)], .own (σ.toks.length + T.length), X ++ [v.cells ++ [.int .i64 (i1 : Int), .int .i64 0]], Y ++ [53], U ++ [41], T ++ [(encMs a).length + 1], by omega, by omega, ?_, ?_, h, f0, f2, f6, f7, f8, rfl, ?_⟩
      · rw [List.length_append]; simp; omega
      · simp [hUT]
      · rw [← hsn]
    · rw [if_neg h44] at h
      rw [decide_eq_false h44]
      simp -implicitDefEqProofs only [f0, f2, f6, f7, f8, f9, List.append_assoc, getL, getL0, setL, setL0, List.set_cons_zero, List.set_cons_succ, take9r, JV.len, take7a, take7, drop7a, drop8r, drop8s, wset, tailW, tailEnd, isLenV, isOneV, vop, vbin, vbinI, vun, ↓reduceIte, Nat.reduceEqDiff, Nat.reduceAdd, vcells, vcut, cutSK, cutVK, cutNK, fillV, spl, Nat.reduceLeDiff, V.isNil, bne_self_eq_false]
      refine r11wrong_C hl1 ?_
      simp -implicitDefEqProofs only [resV, res9, zero7, zero9, f0, f2, f6, f7, f8, f9, List.append_assoc, getL, getL0, setL, setL0, List.set_cons_zero, List.set_cons_succ, take9r, JV.len, take7a, take7, drop7a, drop8r, drop8s, wset, tailW, tailEnd, isLenV, isOneV, vop, vbin, vbinI, vun, ↓reduceIte, Nat.reduceEqDiff, Nat.reduceAdd, vcells, vcut, cutSK, cutVK, cutNK, fillV, spl, Nat.reduceLeDiff, V.isNil, bne_self_eq_false]
      exact exitRes hw h
end Go.Proofs.YtgdcdkgmeomhpaaGreatDoor

namespace Go.Proofs.YtgdcdkgmeomhpaaGreatDoor
open Go Go.Vs
set_option maxRecDepth 20000
attribute [local irreducible] chooseK

theorem resV_cells (r : Res JV) : ∃ cs, resV r = .agg cs ∧ cs.length = 9 := by
  cases r with
  | ok r => exact ⟨_, rfl, by simp [JV.len]⟩
  | error x => exact ⟨_, rfl, by simp [zero7]⟩

/-- Behind the bytes of a number. -/
def numE (s : List UInt8) (p : Nat) : Nat := p + (numT (s.drop p)).length
theorem numE_step {s : List UInt8} {p : Nat} (h : p < s.length) : numE s p = if numSet.contains (s.getD p 0) then numE s (p + 1) else p := by
  unfold numE numT
  rw [drop_getD 0 h, List.takeWhile_cons]
  split
  · simp; omega
  · simp
theorem numE_end (s : List UInt8) : numE s s.length = s.length := by simp [numE, numT]
theorem cut_num (s : List UInt8) (j : Nat) : cut s j (numE s j) = numT (s.drop j) := by
  rw [cut, List.drop_take, numE, Nat.add_sub_cancel_left]
  have h := List.takeWhile_append_dropWhile (p := fun c : UInt8 => numSet.contains c) (l := s.drop j)
  unfold numT
  conv => lhs; arg 2; rw [← h]
  exact List.take_left' rfl
theorem numE_le {s : List UInt8} {j : Nat} (h : j ≤ s.length) : numE s j ≤ s.length := by
  have := numT_len (s.drop j)
  rw [List.length_drop] at this
  unfold numE
  omega

theorem r11value_body {s : List UInt8} {d : Nat} {lim : Bool} {rec : Nat → Res JV} (hs : s.length ≤ big) (hd : d ≤ 101) (hlim : lim = decide (100 < d)) (hrec : lim = false → ValR s (d + 1) rec) (hprog : ProgR s rec) (herr : lim = false → ErrR s rec) (hsk : ∀ i, rec (skipSp s i) = rec i) : ValR s d (valueF lim rec s) := by
  intro i σ Q hi h
  have hs' := hs
  unfold big at hs'
  have hle := skipSp_le hi
  unfold valueF at h
  dsimp only at h
  refine bodyW cf_r11value (Eq.refl true) fun hw => ?_
  simp -implicitDefEqProofs only [vf_r11value, List.append_assoc, getL, getL0, setL, setL0, List.set_cons_zero, List.set_cons_succ, wset, tailW, tailEnd, isLenV, isOneV, vop, vbin, vbinI, vun, ↓reduceIte, Nat.reduceEqDiff, Nat.reduceAdd, vcells, vcut, cutSK, cutVK, cutNK, fillV, spl, Nat.reduceLeDiff, V.isNil, bne_self_eq_false]
  refine r11spaces_C hi hs ?_
  generalize skipSp s i = j at *
  simp -implicitDefEqProofs only [List.append_assoc, getL, getL0, setL, setL0, List.set_cons_zero, List.set_cons_succ, wset, tailW, tailEnd, isLenV, isOneV, vop, vbin, vbinI, vun, ↓reduceIte, Nat.reduceEqDiff, Nat.reduceAdd, vcells, vcut, cutSK, cutVK, cutNK, fillV, spl, Nat.reduceLeDiff, V.isNil, bne_self_eq_false]
  refine chooseK_split (fun g0 => ?_) (fun g0 => ?_) <;> simp -implicitDefEqProofs only [g0, List.append_assoc, getL, getL0, setL, setL0, List.set_cons_zero, List.set_cons_succ, wset, tailW, tailEnd, isLenV, isOneV, vop, vbin, vbinI, vun, ↓reduceIte, Nat.reduceEqDiff, Nat.reduceAdd, vcells, vcut, cutSK, cutVK, cutNK, fillV, spl, Nat.reduceLeDiff, V.isNil, bne_self_eq_false]
  · have hj : j = s.length := by simp at g0; omega
    have hb : byteAt s j = 0 := byteAt_end (by omega)
    rw [hb, if_neg (by cases lim <;> decide), if_neg (by decide), if_neg (by decide), if_neg (by decide), if_neg (by decide), if_neg (by decide), if_neg (by decide), if_neg (by decide)] at h
    refine r11wrong_C hle ?_
    obtain ⟨cs, hcs, hl9⟩ := resV_cells (.error (wrongR s j))
    have hcl := resV_clean σ.toks.length (.error (wrongR s j))
    have hft := resV_fits σ.objs.length σ.maps.length σ.toks.length (.error (wrongR s j))
    rw [hcs] at h hcl hft ⊢
    have ht9 : List.take 9 cs = cs := List.take_of_length_le (by omega)
    have hd9 : List.drop 9 cs = [] := List.drop_of_length_le (by omega)
    simp -implicitDefEqProofs only [hl9, ht9, List.append_assoc, getL, getL0, setL, setL0, List.set_cons_zero, List.set_cons_succ, wset, tailW, tailEnd, isLenV, isOneV, vop, vbin, vbinI, vun, ↓reduceIte, Nat.reduceEqDiff, Nat.reduceAdd, vcells, vcut, cutSK, cutVK, cutNK, fillV, spl, Nat.reduceLeDiff, V.isNil, bne_self_eq_false]
    exact exitNew hw hcl hft h
  have hjl : j < s.length := by simp at g0; omega
  have hc0 : ((s.getD j 0).toNat : Int) = ((byteAt s j).toNat : Int) := rfl
  have hcc : s.getD j 0 = byteAt s j := rfl
  refine chooseK_split (fun d1 => ?_) (fun d1 => ?_) <;> simp -implicitDefEqProofs only [d1, List.append_assoc, getL, getL0, setL, setL0, List.set_cons_zero, List.set_cons_succ, hcc, wset, tailW, tailEnd, isLenV, isOneV, vop, vbin, vbinI, vun, ↓reduceIte, Nat.reduceEqDiff, Nat.reduceAdd, vcells, vcut, cutSK, cutVK, cutNK, fillV, spl, Nat.reduceLeDiff, V.isNil, bne_self_eq_false]
  · have hl1 : lim = true := by rw [hlim]; simp at d1; simp; omega
    refine ⟨by omega, ?_⟩
    refine r11begins_C ?_
    simp -implicitDefEqProofs only [List.append_assoc, getL, getL0, setL, setL0, List.set_cons_zero, List.set_cons_succ, hcc, wset, tailW, tailEnd, isLenV, isOneV, vop, vbin, vbinI, vun, ↓reduceIte, Nat.reduceEqDiff, Nat.reduceAdd, vcells, vcut, cutSK, cutVK, cutNK, fillV, spl, Nat.reduceLeDiff, V.isNil, bne_self_eq_false]
    refine chooseK_split (fun d2 => ?_) (fun d2 => ?_) <;> simp -implicitDefEqProofs only [d2, List.append_assoc, getL, getL0, setL, setL0, List.set_cons_zero, List.set_cons_succ, hcc, wset, tailW, tailEnd, isLenV, isOneV, vop, vbin, vbinI, vun, ↓reduceIte, Nat.reduceEqDiff, Nat.reduceAdd, vcells, vcut, cutSK, cutVK, cutNK, fillV, spl, Nat.reduceLeDiff, V.isNil, bne_self_eq_false]
    · rw [if_pos (by rw [hl1, d2]; rfl)] at h
      try simp -implicitDefEqProofs only [zero9, List.append_assoc, getL, getL0, setL, setL0, List.set_cons_zero, List.set_cons_succ, hcc, wset, tailW, tailEnd, isLenV, isOneV, vop, vbin, vbinI, vun, ↓reduceIte, Nat.reduceEqDiff, Nat.reduceAdd, vcells, vcut, cutSK, cutVK, cutNK, fillV, spl, Nat.reduceLeDiff, V.isNil, bne_self_eq_false]
      exact exitRes0 hw h
    have hb : ¬ (lim && beginsB (byteAt s j)) = true := by rw [hl1, d2]; decide
    rw [if_neg hb] at h
    refine ⟨by omega, ?_⟩
    refine chooseK_split (fun g1 => ?_) (fun g1 => ?_) <;> simp -implicitDefEqProofs only [g1, List.append_assoc, getL, getL0, setL, setL0, List.set_cons_zero, List.set_cons_succ, hcc, wset, tailW, tailEnd, isLenV, isOneV, vop, vbin, vbinI, vun, ↓reduceIte, Nat.reduceEqDiff, Nat.reduceAdd, vcells, vcut, cutSK, cutVK, cutNK, fillV, spl, Nat.reduceLeDiff, V.isNil, bne_self_eq_false]
    · have e : byteAt s j = (110 : UInt8) := byte_eq rfl g1
      rw [if_pos e] at h
      refine r11word_C (v := jv 0 false 0 [] [] [] 0) hjl hs (by decide) ?_
      have h : Q (.ret (resV (wordS s j [110, 117, 108, 108] ((jv 0 false 0 [] [] [] 0).setAt j)))) σ := h
      obtain ⟨cs, hcs, hl9⟩ := resV_cells (wordS s j [110, 117, 108, 108] ((jv 0 false 0 [] [] [] 0).setAt j))
      have hcl := resV_clean σ.toks.length (wordS s j [110, 117, 108, 108] ((jv 0 false 0 [] [] [] 0).setAt j))
      have hft := resV_fits σ.objs.length σ.maps.length σ.toks.length (wordS s j [110, 117, 108, 108] ((jv 0 false 0 [] [] [] 0).setAt j))
      rw [hcs] at h hcl hft ⊢
      have ht9 : List.take 9 cs = cs := List.take_of_length_le (by omega)
      have hd9 : List.drop 9 cs = [] := List.drop_of_length_le (by omega)
      simp -implicitDefEqProofs only [hl9, ht9, List.append_assoc, getL, getL0, setL, setL0, List.set_cons_zero, List.set_cons_succ, hcc, wset, tailW, tailEnd, isLenV, isOneV, vop, vbin, vbinI, vun, ↓reduceIte, Nat.reduceEqDiff, Nat.reduceAdd, vcells, vcut, cutSK, cutVK, cutNK, fillV, spl, Nat.reduceLeDiff, V.isNil, bne_self_eq_false]
      exact exitNew hw hcl hft h
    rw [if_neg (byte_ne rfl g1)] at h
    refine chooseK_split (fun g2 => ?_) (fun g2 => ?_) <;> simp -implicitDefEqProofs only [g2, List.append_assoc, getL, getL0, setL, setL0, List.set_cons_zero, List.set_cons_succ, hcc, wset, tailW, tailEnd, isLenV, isOneV, vop, vbin, vbinI, vun, ↓reduceIte, Nat.reduceEqDiff, Nat.reduceAdd, vcells, vcut, cutSK, cutVK, cutNK, fillV, spl, Nat.reduceLeDiff, V.isNil, bne_self_eq_false]
    · have e : byteAt s j = (116 : UInt8) := byte_eq rfl g2
      rw [if_pos e] at h
      refine r11word_C (v := jv 1 true 0 [] [] [] 0) hjl hs (by decide) ?_
      have h : Q (.ret (resV (wordS s j [116, 114, 117, 101] ((jv 1 true 0 [] [] [] 0).setAt j)))) σ := h
      obtain ⟨cs, hcs, hl9⟩ := resV_cells (wordS s j [116, 114, 117, 101] ((jv 1 true 0 [] [] [] 0).setAt j))
      have hcl := resV_clean σ.toks.length (wordS s j [116, 114, 117, 101] ((jv 1 true 0 [] [] [] 0).setAt j))
      have hft := resV_fits σ.objs.length σ.maps.length σ.toks.length (wordS s j [116, 114, 117, 101] ((jv 1 true 0 [] [] [] 0).setAt j))
      rw [hcs] at h hcl hft ⊢
      have ht9 : List.take 9 cs = cs := List.take_of_length_le (by omega)
      have hd9 : List.drop 9 cs = [] := List.drop_of_length_le (by omega)
      simp -implicitDefEqProofs only [hl9, ht9, List.append_assoc, getL, getL0, setL, setL0, List.set_cons_zero, List.set_cons_succ, hcc, wset, tailW, tailEnd, isLenV, isOneV, vop, vbin, vbinI, vun, ↓reduceIte, Nat.reduceEqDiff, Nat.reduceAdd, vcells, vcut, cutSK, cutVK, cutNK, fillV, spl, Nat.reduceLeDiff, V.isNil, bne_self_eq_false]
      exact exitNew hw hcl hft h
    rw [if_neg (byte_ne rfl g2)] at h
    refine chooseK_split (fun g3 => ?_) (fun g3 => ?_) <;> simp -implicitDefEqProofs only [g3, List.append_assoc, getL, getL0, setL, setL0, List.set_cons_zero, List.set_cons_succ, hcc, wset, tailW, tailEnd, isLenV, isOneV, vop, vbin, vbinI, vun, ↓reduceIte, Nat.reduceEqDiff, Nat.reduceAdd, vcells, vcut, cutSK, cutVK, cutNK, fillV, spl, Nat.reduceLeDiff, V.isNil, bne_self_eq_false]
    · have e : byteAt s j = (102 : UInt8) := byte_eq rfl g3
      rw [if_pos e] at h
      refine r11word_C (v := jv 1 false 0 [] [] [] 0) hjl hs (by decide) ?_
      have h : Q (.ret (resV (wordS s j [102, 97, 108, 115, 101] ((jv 1 false 0 [] [] [] 0).setAt j)))) σ := h
      obtain ⟨cs, hcs, hl9⟩ := resV_cells (wordS s j [102, 97, 108, 115, 101] ((jv 1 false 0 [] [] [] 0).setAt j))
      have hcl := resV_clean σ.toks.length (wordS s j [102, 97, 108, 115, 101] ((jv 1 false 0 [] [] [] 0).setAt j))
      have hft := resV_fits σ.objs.length σ.maps.length σ.toks.length (wordS s j [102, 97, 108, 115, 101] ((jv 1 false 0 [] [] [] 0).setAt j))
      rw [hcs] at h hcl hft ⊢
      have ht9 : List.take 9 cs = cs := List.take_of_length_le (by omega)
      have hd9 : List.drop 9 cs = [] := List.drop_of_length_le (by omega)
      simp -implicitDefEqProofs only [hl9, ht9, List.append_assoc, getL, getL0, setL, setL0, List.set_cons_zero, List.set_cons_succ, hcc, wset, tailW, tailEnd, isLenV, isOneV, vop, vbin, vbinI, vun, ↓reduceIte, Nat.reduceEqDiff, Nat.reduceAdd, vcells, vcut, cutSK, cutVK, cutNK, fillV, spl, Nat.reduceLeDiff, V.isNil, bne_self_eq_false]
      exact exitNew hw hcl hft h
    rw [if_neg (byte_ne rfl g3)] at h
    refine chooseK_split (fun g4 => ?_) (fun g4 => ?_) <;> simp -implicitDefEqProofs only [g4, List.append_assoc, getL, getL0, setL, setL0, List.set_cons_zero, List.set_cons_succ, hcc, wset, tailW, tailEnd, isLenV, isOneV, vop, vbin, vbinI, vun, ↓reduceIte, Nat.reduceEqDiff, Nat.reduceAdd, vcells, vcut, cutSK, cutVK, cutNK, fillV, spl, Nat.reduceLeDiff, V.isNil, bne_self_eq_false]
    · have e : byteAt s j = (34 : UInt8) := byte_eq rfl g4
      rw [if_pos e] at h
      refine r10Parse_C hle hs ?_
      generalize strP s j = r at h ⊢
      obtain ⟨b, to, e⟩ := r
      dsimp only at h ⊢
      simp -implicitDefEqProofs only [List.append_assoc, getL, getL0, setL, setL0, List.set_cons_zero, List.set_cons_succ, hcc, wset, tailW, tailEnd, isLenV, isOneV, vop, vbin, vbinI, vun, ↓reduceIte, Nat.reduceEqDiff, Nat.reduceAdd, vcells, vcut, cutSK, cutVK, cutNK, fillV, spl, Nat.reduceLeDiff, V.isNil, bne_self_eq_false]
      refine chooseK_split (fun k1 => ?_) (fun k1 => ?_) <;> simp -implicitDefEqProofs only [k1, List.append_assoc, getL, getL0, setL, setL0, List.set_cons_zero, List.set_cons_succ, hcc, wset, tailW, tailEnd, isLenV, isOneV, vop, vbin, vbinI, vun, ↓reduceIte, Nat.reduceEqDiff, Nat.reduceAdd, vcells, vcut, cutSK, cutVK, cutNK, fillV, spl, Nat.reduceLeDiff, V.isNil, bne_self_eq_false]
      · rw [if_neg (by simp at k1; omega)] at h
        try simp -implicitDefEqProofs only [zero9, List.append_assoc, getL, getL0, setL, setL0, List.set_cons_zero, List.set_cons_succ, hcc, wset, tailW, tailEnd, isLenV, isOneV, vop, vbin, vbinI, vun, ↓reduceIte, Nat.reduceEqDiff, Nat.reduceAdd, vcells, vcut, cutSK, cutVK, cutNK, fillV, spl, Nat.reduceLeDiff, V.isNil, bne_self_eq_false]
        exact exitRes0 hw h
      · rw [if_pos (by simp at k1; omega)] at h
        try simp -implicitDefEqProofs only [zero9, List.append_assoc, getL, getL0, setL, setL0, List.set_cons_zero, List.set_cons_succ, hcc, wset, tailW, tailEnd, isLenV, isOneV, vop, vbin, vbinI, vun, ↓reduceIte, Nat.reduceEqDiff, Nat.reduceAdd, vcells, vcut, cutSK, cutVK, cutNK, fillV, spl, Nat.reduceLeDiff, V.isNil, bne_self_eq_false]
        exact exitRes0 hw h
    rw [if_neg (byte_ne rfl g4)] at h
    refine chooseK_split (fun g5 => ?_) (fun g5 => ?_) <;> simp -implicitDefEqProofs only [g5, List.append_assoc, getL, getL0, setL, setL0, List.set_cons_zero, List.set_cons_succ, hcc, wset, tailW, tailEnd, isLenV, isOneV, vop, vbin, vbinI, vun, ↓reduceIte, Nat.reduceEqDiff, Nat.reduceAdd, vcells, vcut, cutSK, cutVK, cutNK, fillV, spl, Nat.reduceLeDiff, V.isNil, bne_self_eq_false]
    · have e : byteAt s j = (91 : UInt8) := byte_eq rfl g5
      have hl0 : lim = false := by
        cases hl : lim with
        | false => rfl
        | true => rw [hl, e] at hb; exact absurd (by decide) hb
      rw [if_neg (by rw [e]; decide), if_pos e] at h
      refine arr_C hs (by omega) (hrec hl0) hprog (herr hl0) hsk hjl (by show (byteAt s j).toNat = 91; rw [e]; rfl) ?_
      have h : Q (.ret (resV (match elemS (arrStep rec) s 93 j [] with | .ok (is, i1) => (.ok (jv 4 false 0 [] is [] j, i1) : Res JV) | .error x => .error x))) σ := h
      show itK _ _ _ _ (.ret (resV (match elemS (arrStep rec) s 93 j [] with | .ok (is, i1) => (.ok (jv 4 false 0 [] is [] j, i1) : Res JV) | .error x => .error x))) _
      obtain ⟨cs, hcs, hl9⟩ := resV_cells (match elemS (arrStep rec) s 93 j [] with | .ok (is, i1) => (.ok (jv 4 false 0 [] is [] j, i1) : Res JV) | .error x => .error x)
      have hcl := resV_clean σ.toks.length (match elemS (arrStep rec) s 93 j [] with | .ok (is, i1) => (.ok (jv 4 false 0 [] is [] j, i1) : Res JV) | .error x => .error x)
      have hft := resV_fits σ.objs.length σ.maps.length σ.toks.length (match elemS (arrStep rec) s 93 j [] with | .ok (is, i1) => (.ok (jv 4 false 0 [] is [] j, i1) : Res JV) | .error x => .error x)
      rw [hcs] at h hcl hft ⊢
      have ht9 : List.take 9 cs = cs := List.take_of_length_le (by omega)
      have hd9 : List.drop 9 cs = [] := List.drop_of_length_le (by omega)
      simp -implicitDefEqProofs only [hl9, ht9, List.append_assoc, getL, getL0, setL, setL0, List.set_cons_zero, List.set_cons_succ, hcc, wset, tailW, tailEnd, isLenV, isOneV, vop, vbin, vbinI, vun, ↓reduceIte, Nat.reduceEqDiff, Nat.reduceAdd, vcells, vcut, cutSK, cutVK, cutNK, fillV, spl, Nat.reduceLeDiff, V.isNil, bne_self_eq_false]
      exact exitNew hw hcl hft h
    refine chooseK_split (fun g6 => ?_) (fun g6 => ?_) <;> simp -implicitDefEqProofs only [g6, List.append_assoc, getL, getL0, setL, setL0, List.set_cons_zero, List.set_cons_succ, hcc, wset, tailW, tailEnd, isLenV, isOneV, vop, vbin, vbinI, vun, ↓reduceIte, Nat.reduceEqDiff, Nat.reduceAdd, vcells, vcut, cutSK, cutVK, cutNK, fillV, spl, Nat.reduceLeDiff, V.isNil, bne_self_eq_false]
    · have e : byteAt s j = (123 : UInt8) := byte_eq rfl g6
      have hl0 : lim = false := by
        cases hl : lim with
        | false => rfl
        | true => rw [hl, e] at hb; exact absurd (by decide) hb
      rw [if_neg (by rw [e]; decide), if_neg (by rw [e]; decide), if_pos e] at h
      refine obj_C hs (by omega) (hrec hl0) hprog (herr hl0) hsk hjl (by show (byteAt s j).toNat = 123; rw [e]; rfl) ?_
      have h : Q (.ret (resV (match elemS (objStep rec s) s 125 j [] with | .ok (ms, i1) => (.ok (jv 5 false 0 [] [] ms j, i1) : Res JV) | .error x => .error x))) σ := h
      show itK _ _ _ _ (.ret (resV (match elemS (objStep rec s) s 125 j [] with | .ok (ms, i1) => (.ok (jv 5 false 0 [] [] ms j, i1) : Res JV) | .error x => .error x))) _
      obtain ⟨cs, hcs, hl9⟩ := resV_cells (match elemS (objStep rec s) s 125 j [] with | .ok (ms, i1) => (.ok (jv 5 false 0 [] [] ms j, i1) : Res JV) | .error x => .error x)
      have hcl := resV_clean σ.toks.length (match elemS (objStep rec s) s 125 j [] with | .ok (ms, i1) => (.ok (jv 5 false 0 [] [] ms j, i1) : Res JV) | .error x => .error x)
      have hft := resV_fits σ.objs.length σ.maps.length σ.toks.length (match elemS (objStep rec s) s 125 j [] with | .ok (ms, i1) => (.ok (jv 5 false 0 [] [] ms j, i1) : Res JV) | .error x => .error x)
      rw [hcs] at h hcl hft ⊢
      have ht9 : List.take 9 cs = cs := List.take_of_length_le (by omega)
      have hd9 : List.drop 9 cs = [] := List.drop_of_length_le (by omega)
      simp -implicitDefEqProofs only [hl9, ht9, List.append_assoc, getL, getL0, setL, setL0, List.set_cons_zero, List.set_cons_succ, hcc, wset, tailW, tailEnd, isLenV, isOneV, vop, vbin, vbinI, vun, ↓reduceIte, Nat.reduceEqDiff, Nat.reduceAdd, vcells, vcut, cutSK, cutVK, cutNK, fillV, spl, Nat.reduceLeDiff, V.isNil, bne_self_eq_false]
      exact exitNew hw hcl hft h
    refine ⟨by omega, ?_⟩
    have n5 : byteAt s j ≠ 91 := byte_ne rfl g5
    have n6 : byteAt s j ≠ 123 := byte_ne rfl g6
    refine chooseK_split (fun g7 => ?_) (fun g7 => ?_) <;> simp -implicitDefEqProofs only [g7, List.append_assoc, getL, getL0, setL, setL0, List.set_cons_zero, List.set_cons_succ, hcc, wset, tailW, tailEnd, isLenV, isOneV, vop, vbin, vbinI, vun, ↓reduceIte, Nat.reduceEqDiff, Nat.reduceAdd, vcells, vcut, cutSK, cutVK, cutNK, fillV, spl, Nat.reduceLeDiff, V.isNil, bne_self_eq_false]
    · refine ⟨by omega, ?_⟩
      have n7 : byteAt s j ≠ 45 := fun e => by rw [e] at g7; cases g7
      refine chooseK_split (fun g8 => ?_) (fun g8 => ?_) <;> simp -implicitDefEqProofs only [g8, List.append_assoc, getL, getL0, setL, setL0, List.set_cons_zero, List.set_cons_succ, hcc, wset, tailW, tailEnd, isLenV, isOneV, vop, vbin, vbinI, vun, ↓reduceIte, Nat.reduceEqDiff, Nat.reduceAdd, vcells, vcut, cutSK, cutVK, cutNK, fillV, spl, Nat.reduceLeDiff, V.isNil, bne_self_eq_false]
      · rw [if_neg (fun hh => hh.elim n7 (fun hh => by simp at g8; omega)), if_neg n5, if_neg n6] at h
        refine r11wrong_C hle ?_
        obtain ⟨cs, hcs, hl9⟩ := resV_cells (.error (wrongR s j))
        have hcl := resV_clean σ.toks.length (.error (wrongR s j))
        have hft := resV_fits σ.objs.length σ.maps.length σ.toks.length (.error (wrongR s j))
        rw [hcs] at h hcl hft ⊢
        have ht9 : List.take 9 cs = cs := List.take_of_length_le (by omega)
        have hd9 : List.drop 9 cs = [] := List.drop_of_length_le (by omega)
        simp -implicitDefEqProofs only [hl9, ht9, List.append_assoc, getL, getL0, setL, setL0, List.set_cons_zero, List.set_cons_succ, hcc, wset, tailW, tailEnd, isLenV, isOneV, vop, vbin, vbinI, vun, ↓reduceIte, Nat.reduceEqDiff, Nat.reduceAdd, vcells, vcut, cutSK, cutVK, cutNK, fillV, spl, Nat.reduceLeDiff, V.isNil, bne_self_eq_false]
        exact exitNew hw hcl hft h
      refine ⟨by omega, ?_⟩
      refine chooseK_split (fun g9 => ?_) (fun g9 => ?_) <;> simp -implicitDefEqProofs only [g9, List.append_assoc, getL, getL0, setL, setL0, List.set_cons_zero, List.set_cons_succ, hcc, wset, tailW, tailEnd, isLenV, isOneV, vop, vbin, vbinI, vun, ↓reduceIte, Nat.reduceEqDiff, Nat.reduceAdd, vcells, vcut, cutSK, cutVK, cutNK, fillV, spl, Nat.reduceLeDiff, V.isNil, bne_self_eq_false]
      · rw [if_neg (fun hh => hh.elim n7 (fun hh => by simp at g9; omega)), if_neg n5, if_neg n6] at h
        refine r11wrong_C hle ?_
        obtain ⟨cs, hcs, hl9⟩ := resV_cells (.error (wrongR s j))
        have hcl := resV_clean σ.toks.length (.error (wrongR s j))
        have hft := resV_fits σ.objs.length σ.maps.length σ.toks.length (.error (wrongR s j))
        rw [hcs] at h hcl hft ⊢
        have ht9 : List.take 9 cs = cs := List.take_of_length_le (by omega)
        have hd9 : List.drop 9 cs = [] := List.drop_of_length_le (by omega)
        simp -implicitDefEqProofs only [hl9, ht9, List.append_assoc, getL, getL0, setL, setL0, List.set_cons_zero, List.set_cons_succ, hcc, wset, tailW, tailEnd, isLenV, isOneV, vop, vbin, vbinI, vun, ↓reduceIte, Nat.reduceEqDiff, Nat.reduceAdd, vcells, vcut, cutSK, cutVK, cutNK, fillV, spl, Nat.reduceLeDiff, V.isNil, bne_self_eq_false]
        exact exitNew hw hcl hft h
      have hn : byteAt s j = 45 ∨ 48 ≤ (byteAt s j).toNat ∧ (byteAt s j).toNat ≤ 57 := .inr (by simp at g8 g9; omega)
      rw [if_pos hn] at h
      rw [numS_numR] at h
      refine LoopP.intro (fun n fr σ' => ∃ (p : Nat), j ≤ p ∧ p ≤ s.length ∧ n = s.length - p ∧ numE s p = numE s j ∧ fr 0 = .str s ∧ fr 1 = .int .i64 (j : Int) ∧ fr 6 = .ref (some (σ.objs.length, 0)) ∧ fr 10 = .int .i64 (p : Int) ∧ σ' = ⟨σ.objs ++ [zero9], σ.maps, σ.toks, σ.tys ++ [53], σ.tts⟩) (s.length - j) ?_ ?_
      · exact ⟨j, by omega, by omega, rfl, rfl, rfl, rfl, rfl, rfl, rfl⟩
      rintro n fr σ' ⟨p, hpj, hp, rfl, hpe, f0, f1, f6, f10, rfl⟩
      simp -implicitDefEqProofs only [f0, f1, f6, f10, List.append_assoc, getL, getL0, setL, setL0, List.set_cons_zero, List.set_cons_succ, wset, tailW, tailEnd, isLenV, isOneV, vop, vbin, vbinI, vun, ↓reduceIte, Nat.reduceEqDiff, Nat.reduceAdd, vcells, vcut, cutSK, cutVK, cutNK, fillV, spl, Nat.reduceLeDiff, V.isNil, bne_self_eq_false]
      refine chooseK_split (fun n1 => ?_) (fun n1 => ?_) <;> simp -implicitDefEqProofs only [n1, f0, f1, f6, f10, List.append_assoc, getL, getL0, setL, setL0, List.set_cons_zero, List.set_cons_succ, wset, tailW, tailEnd, isLenV, isOneV, vop, vbin, vbinI, vun, ↓reduceIte, Nat.reduceEqDiff, Nat.reduceAdd, vcells, vcut, cutSK, cutVK, cutNK, fillV, spl, Nat.reduceLeDiff, V.isNil, bne_self_eq_false]
      · have hpl : p < s.length := by simp at n1; omega
        have hst := numE_step hpl
        refine ⟨by omega, ?_⟩
        refine r11numeric_C ?_
        simp -implicitDefEqProofs only [f0, f1, f6, f10, List.append_assoc, getL, getL0, setL, setL0, List.set_cons_zero, List.set_cons_succ, wset, tailW, tailEnd, isLenV, isOneV, vop, vbin, vbinI, vun, ↓reduceIte, Nat.reduceEqDiff, Nat.reduceAdd, vcells, vcut, cutSK, cutVK, cutNK, fillV, spl, Nat.reduceLeDiff, V.isNil, bne_self_eq_false]
        refine chooseK_split (fun n2 => ?_) (fun n2 => ?_) <;> simp -implicitDefEqProofs only [n2, f0, f1, f6, f10, List.append_assoc, getL, getL0, setL, setL0, List.set_cons_zero, List.set_cons_succ, wset, tailW, tailEnd, isLenV, isOneV, vop, vbin, vbinI, vun, ↓reduceIte, Nat.reduceEqDiff, Nat.reduceAdd, vcells, vcut, cutSK, cutVK, cutNK, fillV, spl, Nat.reduceLeDiff, V.isNil, bne_self_eq_false]
        · rw [if_pos n2] at hst
          rw [wrap64 (by omega)]
          exact ⟨s.length - (p + 1), by omega, p + 1, by omega, by omega, rfl, by rw [← hpe, hst], f0, f1, f6, rfl, rfl⟩
        · rw [if_neg (by rw [n2]; simp)] at hst
          have hpp : p = numE s j := by rw [← hpe, hst]
          have hnl := numE_le hle
          refine ⟨by omega, by omega, ?_⟩
          rw [hpp, cut_num]
          have hln : (numT (s.drop j)).length ≤ s.length := by have := numT_len (s.drop j); rw [List.length_drop] at this; omega
          refine refNumber_C (by unfold big; omega) ?_
          cases hnr : numR (numT (s.drop j)) with
          | none =>
            rw [hnr] at h
            intro nn
            try simp -implicitDefEqProofs only [zero9, f0, f1, f6, f10, List.append_assoc, getL, getL0, setL, setL0, List.set_cons_zero, List.set_cons_succ, wset, tailW, tailEnd, isLenV, isOneV, vop, vbin, vbinI, vun, ↓reduceIte, Nat.reduceEqDiff, Nat.reduceAdd, vcells, vcut, cutSK, cutVK, cutNK, fillV, spl, Nat.reduceLeDiff, V.isNil, bne_self_eq_false]
            exact exitRes0 hw h
          | some v =>
            rw [hnr] at h
            try simp -implicitDefEqProofs only [zero9, f0, f1, f6, f10, List.append_assoc, getL, getL0, setL, setL0, List.set_cons_zero, List.set_cons_succ, wset, tailW, tailEnd, isLenV, isOneV, vop, vbin, vbinI, vun, ↓reduceIte, Nat.reduceEqDiff, Nat.reduceAdd, vcells, vcut, cutSK, cutVK, cutNK, fillV, spl, Nat.reduceLeDiff, V.isNil, bne_self_eq_false]
            have e : p = j + (numT (s.drop j)).length := hpp
            rw [e]
            exact exitRes0 hw h
      · have hpp : p = numE s j := by
          have : p = s.length := by simp at n1; omega
          rw [← hpe, this, numE_end]
        have hnl := numE_le hle
        refine ⟨by omega, by omega, ?_⟩
        rw [hpp, cut_num]
        have hln : (numT (s.drop j)).length ≤ s.length := by have := numT_len (s.drop j); rw [List.length_drop] at this; omega
        refine refNumber_C (by unfold big; omega) ?_
        cases hnr : numR (numT (s.drop j)) with
        | none =>
          rw [hnr] at h
          intro nn
          try simp -implicitDefEqProofs only [zero9, f0, f1, f6, f10, List.append_assoc, getL, getL0, setL, setL0, List.set_cons_zero, List.set_cons_succ, wset, tailW, tailEnd, isLenV, isOneV, vop, vbin, vbinI, vun, ↓reduceIte, Nat.reduceEqDiff, Nat.reduceAdd, vcells, vcut, cutSK, cutVK, cutNK, fillV, spl, Nat.reduceLeDiff, V.isNil, bne_self_eq_false]
          exact exitRes0 hw h
        | some v =>
          rw [hnr] at h
          try simp -implicitDefEqProofs only [zero9, f0, f1, f6, f10, List.append_assoc, getL, getL0, setL, setL0, List.set_cons_zero, List.set_cons_succ, wset, tailW, tailEnd, isLenV, isOneV, vop, vbin, vbinI, vun, ↓reduceIte, Nat.reduceEqDiff, Nat.reduceAdd, vcells, vcut, cutSK, cutVK, cutNK, fillV, spl, Nat.reduceLeDiff, V.isNil, bne_self_eq_false]
          have e : p = j + (numT (s.drop j)).length := hpp
          rw [e]
          exact exitRes0 hw h
    · have n7 : byteAt s j = 45 := byte_eq rfl (by simpa using g7)
      have hn : byteAt s j = 45 ∨ 48 ≤ (byteAt s j).toNat ∧ (byteAt s j).toNat ≤ 57 := .inl n7
      rw [if_pos hn] at h
      rw [numS_numR] at h
      refine LoopP.intro (fun n fr σ' => ∃ (p : Nat), j ≤ p ∧ p ≤ s.length ∧ n = s.length - p ∧ numE s p = numE s j ∧ fr 0 = .str s ∧ fr 1 = .int .i64 (j : Int) ∧ fr 6 = .ref (some (σ.objs.length, 0)) ∧ fr 10 = .int .i64 (p : Int) ∧ σ' = ⟨σ.objs ++ [zero9], σ.maps, σ.toks, σ.tys ++ [53], σ.tts⟩) (s.length - j) ?_ ?_
      · exact ⟨j, by omega, by omega, rfl, rfl, rfl, rfl, rfl, rfl, rfl⟩
      rintro n fr σ' ⟨p, hpj, hp, rfl, hpe, f0, f1, f6, f10, rfl⟩
      simp -implicitDefEqProofs only [f0, f1, f6, f10, List.append_assoc, getL, getL0, setL, setL0, List.set_cons_zero, List.set_cons_succ, wset, tailW, tailEnd, isLenV, isOneV, vop, vbin, vbinI, vun, ↓reduceIte, Nat.reduceEqDiff, Nat.reduceAdd, vcells, vcut, cutSK, cutVK, cutNK, fillV, spl, Nat.reduceLeDiff, V.isNil, bne_self_eq_false]
      refine chooseK_split (fun n1 => ?_) (fun n1 => ?_) <;> simp -implicitDefEqProofs only [n1, f0, f1, f6, f10, List.append_assoc, getL, getL0, setL, setL0, List.set_cons_zero, List.set_cons_succ, wset, tailW, tailEnd, isLenV, isOneV, vop, vbin, vbinI, vun, ↓reduceIte, Nat.reduceEqDiff, Nat.reduceAdd, vcells, vcut, cutSK, cutVK, cutNK, fillV, spl, Nat.reduceLeDiff, V.isNil, bne_self_eq_false]
      · have hpl : p < s.length := by simp at n1; omega
        have hst := numE_step hpl
        refine ⟨by omega, ?_⟩
        refine r11numeric_C ?_
        simp -implicitDefEqProofs only [f0, f1, f6, f10, List.append_assoc, getL, getL0, setL, setL0, List.set_cons_zero, List.set_cons_succ, wset, tailW, tailEnd, isLenV, isOneV, vop, vbin, vbinI, vun, ↓reduceIte, Nat.reduceEqDiff, Nat.reduceAdd, vcells, vcut, cutSK, cutVK, cutNK, fillV, spl, Nat.reduceLeDiff, V.isNil, bne_self_eq_false]
        refine chooseK_split (fun n2 => ?_) (fun n2 => ?_) <;> simp -implicitDefEqProofs only [n2, f0, f1, f6, f10, List.append_assoc, getL, getL0, setL, setL0, List.set_cons_zero, List.set_cons_succ, wset, tailW, tailEnd, isLenV, isOneV, vop, vbin, vbinI, vun, ↓reduceIte, Nat.reduceEqDiff, Nat.reduceAdd, vcells, vcut, cutSK, cutVK, cutNK, fillV, spl, Nat.reduceLeDiff, V.isNil, bne_self_eq_false]
        · rw [if_pos n2] at hst
          rw [wrap64 (by omega)]
          exact ⟨s.length - (p + 1), by omega, p + 1, by omega, by omega, rfl, by rw [← hpe, hst], f0, f1, f6, rfl, rfl⟩
        · rw [if_neg (by rw [n2]; simp)] at hst
          have hpp : p = numE s j := by rw [← hpe, hst]
          have hnl := numE_le hle
          refine ⟨by omega, by omega, ?_⟩
          rw [hpp, cut_num]
          have hln : (numT (s.drop j)).length ≤ s.length := by have := numT_len (s.drop j); rw [List.length_drop] at this; omega
          refine refNumber_C (by unfold big; omega) ?_
          cases hnr : numR (numT (s.drop j)) with
          | none =>
            rw [hnr] at h
            intro nn
            try simp -implicitDefEqProofs only [zero9, f0, f1, f6, f10, List.append_assoc, getL, getL0, setL, setL0, List.set_cons_zero, List.set_cons_succ, wset, tailW, tailEnd, isLenV, isOneV, vop, vbin, vbinI, vun, ↓reduceIte, Nat.reduceEqDiff, Nat.reduceAdd, vcells, vcut, cutSK, cutVK, cutNK, fillV, spl, Nat.reduceLeDiff, V.isNil, bne_self_eq_false]
            exact exitRes0 hw h
          | some v =>
            rw [hnr] at h
            try simp -implicitDefEqProofs only [zero9, f0, f1, f6, f10, List.append_assoc, getL, getL0, setL, setL0, List.set_cons_zero, List.set_cons_succ, wset, tailW, tailEnd, isLenV, isOneV, vop, vbin, vbinI, vun, ↓reduceIte, Nat.reduceEqDiff, Nat.reduceAdd, vcells, vcut, cutSK, cutVK, cutNK, fillV, spl, Nat.reduceLeDiff, V.isNil, bne_self_eq_false]
            have e : p = j + (numT (s.drop j)).length := hpp
            rw [e]
            exact exitRes0 hw h
      · have hpp : p = numE s j := by
          have : p = s.length := by simp at n1; omega
          rw [← hpe, this, numE_end]
        have hnl := numE_le hle
        refine ⟨by omega, by omega, ?_⟩
        rw [hpp, cut_num]
        have hln : (numT (s.drop j)).length ≤ s.length := by have := numT_len (s.drop j); rw [List.length_drop] at this; omega
        refine refNumber_C (by unfold big; omega) ?_
        cases hnr : numR (numT (s.drop j)) with
        | none =>
          rw [hnr] at h
          intro nn
          try simp -implicitDefEqProofs only [zero9, f0, f1, f6, f10, List.append_assoc, getL, getL0, setL, setL0, List.set_cons_zero, List.set_cons_succ, wset, tailW, tailEnd, isLenV, isOneV, vop, vbin, vbinI, vun, ↓reduceIte, Nat.reduceEqDiff, Nat.reduceAdd, vcells, vcut, cutSK, cutVK, cutNK, fillV, spl, Nat.reduceLeDiff, V.isNil, bne_self_eq_false]
          exact exitRes0 hw h
        | some v =>
          rw [hnr] at h
          try simp -implicitDefEqProofs only [zero9, f0, f1, f6, f10, List.append_assoc, getL, getL0, setL, setL0, List.set_cons_zero, List.set_cons_succ, wset, tailW, tailEnd, isLenV, isOneV, vop, vbin, vbinI, vun, ↓reduceIte, Nat.reduceEqDiff, Nat.reduceAdd, vcells, vcut, cutSK, cutVK, cutNK, fillV, spl, Nat.reduceLeDiff, V.isNil, bne_self_eq_false]
          have e : p = j + (numT (s.drop j)).length := hpp
          rw [e]
          exact exitRes0 hw h
  · have hl1 : lim = false := by rw [hlim]; simp at d1; simp; omega
    have hb : ¬ (lim && beginsB (byteAt s j)) = true := by rw [hl1]; simp
    rw [if_neg hb] at h
    refine ⟨by omega, ?_⟩
    refine chooseK_split (fun g1 => ?_) (fun g1 => ?_) <;> simp -implicitDefEqProofs only [g1, List.append_assoc, getL, getL0, setL, setL0, List.set_cons_zero, List.set_cons_succ, hcc, wset, tailW, tailEnd, isLenV, isOneV, vop, vbin, vbinI, vun, ↓reduceIte, Nat.reduceEqDiff, Nat.reduceAdd, vcells, vcut, cutSK, cutVK, cutNK, fillV, spl, Nat.reduceLeDiff, V.isNil, bne_self_eq_false]
    · have e : byteAt s j = (110 : UInt8) := byte_eq rfl g1
      rw [if_pos e] at h
      refine r11word_C (v := jv 0 false 0 [] [] [] 0) hjl hs (by decide) ?_
      have h : Q (.ret (resV (wordS s j [110, 117, 108, 108] ((jv 0 false 0 [] [] [] 0).setAt j)))) σ := h
      obtain ⟨cs, hcs, hl9⟩ := resV_cells (wordS s j [110, 117, 108, 108] ((jv 0 false 0 [] [] [] 0).setAt j))
      have hcl := resV_clean σ.toks.length (wordS s j [110, 117, 108, 108] ((jv 0 false 0 [] [] [] 0).setAt j))
      have hft := resV_fits σ.objs.length σ.maps.length σ.toks.length (wordS s j [110, 117, 108, 108] ((jv 0 false 0 [] [] [] 0).setAt j))
      rw [hcs] at h hcl hft ⊢
      have ht9 : List.take 9 cs = cs := List.take_of_length_le (by omega)
      have hd9 : List.drop 9 cs = [] := List.drop_of_length_le (by omega)
      simp -implicitDefEqProofs only [hl9, ht9, List.append_assoc, getL, getL0, setL, setL0, List.set_cons_zero, List.set_cons_succ, hcc, wset, tailW, tailEnd, isLenV, isOneV, vop, vbin, vbinI, vun, ↓reduceIte, Nat.reduceEqDiff, Nat.reduceAdd, vcells, vcut, cutSK, cutVK, cutNK, fillV, spl, Nat.reduceLeDiff, V.isNil, bne_self_eq_false]
      exact exitNew hw hcl hft h
    rw [if_neg (byte_ne rfl g1)] at h
    refine chooseK_split (fun g2 => ?_) (fun g2 => ?_) <;> simp -implicitDefEqProofs only [g2, List.append_assoc, getL, getL0, setL, setL0, List.set_cons_zero, List.set_cons_succ, hcc, wset, tailW, tailEnd, isLenV, isOneV, vop, vbin, vbinI, vun, ↓reduceIte, Nat.reduceEqDiff, Nat.reduceAdd, vcells, vcut, cutSK, cutVK, cutNK, fillV, spl, Nat.reduceLeDiff, V.isNil, bne_self_eq_false]
    · have e : byteAt s j = (116 : UInt8) := byte_eq rfl g2
      rw [if_pos e] at h
      refine r11word_C (v := jv 1 true 0 [] [] [] 0) hjl hs (by decide) ?_
      have h : Q (.ret (resV (wordS s j [116, 114, 117, 101] ((jv 1 true 0 [] [] [] 0).setAt j)))) σ := h
      obtain ⟨cs, hcs, hl9⟩ := resV_cells (wordS s j [116, 114, 117, 101] ((jv 1 true 0 [] [] [] 0).setAt j))
      have hcl := resV_clean σ.toks.length (wordS s j [116, 114, 117, 101] ((jv 1 true 0 [] [] [] 0).setAt j))
      have hft := resV_fits σ.objs.length σ.maps.length σ.toks.length (wordS s j [116, 114, 117, 101] ((jv 1 true 0 [] [] [] 0).setAt j))
      rw [hcs] at h hcl hft ⊢
      have ht9 : List.take 9 cs = cs := List.take_of_length_le (by omega)
      have hd9 : List.drop 9 cs = [] := List.drop_of_length_le (by omega)
      simp -implicitDefEqProofs only [hl9, ht9, List.append_assoc, getL, getL0, setL, setL0, List.set_cons_zero, List.set_cons_succ, hcc, wset, tailW, tailEnd, isLenV, isOneV, vop, vbin, vbinI, vun, ↓reduceIte, Nat.reduceEqDiff, Nat.reduceAdd, vcells, vcut, cutSK, cutVK, cutNK, fillV, spl, Nat.reduceLeDiff, V.isNil, bne_self_eq_false]
      exact exitNew hw hcl hft h
    rw [if_neg (byte_ne rfl g2)] at h
    refine chooseK_split (fun g3 => ?_) (fun g3 => ?_) <;> simp -implicitDefEqProofs only [g3, List.append_assoc, getL, getL0, setL, setL0, List.set_cons_zero, List.set_cons_succ, hcc, wset, tailW, tailEnd, isLenV, isOneV, vop, vbin, vbinI, vun, ↓reduceIte, Nat.reduceEqDiff, Nat.reduceAdd, vcells, vcut, cutSK, cutVK, cutNK, fillV, spl, Nat.reduceLeDiff, V.isNil, bne_self_eq_false]
    · have e : byteAt s j = (102 : UInt8) := byte_eq rfl g3
      rw [if_pos e] at h
      refine r11word_C (v := jv 1 false 0 [] [] [] 0) hjl hs (by decide) ?_
      have h : Q (.ret (resV (wordS s j [102, 97, 108, 115, 101] ((jv 1 false 0 [] [] [] 0).setAt j)))) σ := h
      obtain ⟨cs, hcs, hl9⟩ := resV_cells (wordS s j [102, 97, 108, 115, 101] ((jv 1 false 0 [] [] [] 0).setAt j))
      have hcl := resV_clean σ.toks.length (wordS s j [102, 97, 108, 115, 101] ((jv 1 false 0 [] [] [] 0).setAt j))
      have hft := resV_fits σ.objs.length σ.maps.length σ.toks.length (wordS s j [102, 97, 108, 115, 101] ((jv 1 false 0 [] [] [] 0).setAt j))
      rw [hcs] at h hcl hft ⊢
      have ht9 : List.take 9 cs = cs := List.take_of_length_le (by omega)
      have hd9 : List.drop 9 cs = [] := List.drop_of_length_le (by omega)
      simp -implicitDefEqProofs only [hl9, ht9, List.append_assoc, getL, getL0, setL, setL0, List.set_cons_zero, List.set_cons_succ, hcc, wset, tailW, tailEnd, isLenV, isOneV, vop, vbin, vbinI, vun, ↓reduceIte, Nat.reduceEqDiff, Nat.reduceAdd, vcells, vcut, cutSK, cutVK, cutNK, fillV, spl, Nat.reduceLeDiff, V.isNil, bne_self_eq_false]
      exact exitNew hw hcl hft h
    rw [if_neg (byte_ne rfl g3)] at h
    refine chooseK_split (fun g4 => ?_) (fun g4 => ?_) <;> simp -implicitDefEqProofs only [g4, List.append_assoc, getL, getL0, setL, setL0, List.set_cons_zero, List.set_cons_succ, hcc, wset, tailW, tailEnd, isLenV, isOneV, vop, vbin, vbinI, vun, ↓reduceIte, Nat.reduceEqDiff, Nat.reduceAdd, vcells, vcut, cutSK, cutVK, cutNK, fillV, spl, Nat.reduceLeDiff, V.isNil, bne_self_eq_false]
    · have e : byteAt s j = (34 : UInt8) := byte_eq rfl g4
      rw [if_pos e] at h
      refine r10Parse_C hle hs ?_
      generalize strP s j = r at h ⊢
      obtain ⟨b, to, e⟩ := r
      dsimp only at h ⊢
      simp -implicitDefEqProofs only [List.append_assoc, getL, getL0, setL, setL0, List.set_cons_zero, List.set_cons_succ, hcc, wset, tailW, tailEnd, isLenV, isOneV, vop, vbin, vbinI, vun, ↓reduceIte, Nat.reduceEqDiff, Nat.reduceAdd, vcells, vcut, cutSK, cutVK, cutNK, fillV, spl, Nat.reduceLeDiff, V.isNil, bne_self_eq_false]
      refine chooseK_split (fun k1 => ?_) (fun k1 => ?_) <;> simp -implicitDefEqProofs only [k1, List.append_assoc, getL, getL0, setL, setL0, List.set_cons_zero, List.set_cons_succ, hcc, wset, tailW, tailEnd, isLenV, isOneV, vop, vbin, vbinI, vun, ↓reduceIte, Nat.reduceEqDiff, Nat.reduceAdd, vcells, vcut, cutSK, cutVK, cutNK, fillV, spl, Nat.reduceLeDiff, V.isNil, bne_self_eq_false]
      · rw [if_neg (by simp at k1; omega)] at h
        try simp -implicitDefEqProofs only [zero9, List.append_assoc, getL, getL0, setL, setL0, List.set_cons_zero, List.set_cons_succ, hcc, wset, tailW, tailEnd, isLenV, isOneV, vop, vbin, vbinI, vun, ↓reduceIte, Nat.reduceEqDiff, Nat.reduceAdd, vcells, vcut, cutSK, cutVK, cutNK, fillV, spl, Nat.reduceLeDiff, V.isNil, bne_self_eq_false]
        exact exitRes0 hw h
      · rw [if_pos (by simp at k1; omega)] at h
        try simp -implicitDefEqProofs only [zero9, List.append_assoc, getL, getL0, setL, setL0, List.set_cons_zero, List.set_cons_succ, hcc, wset, tailW, tailEnd, isLenV, isOneV, vop, vbin, vbinI, vun, ↓reduceIte, Nat.reduceEqDiff, Nat.reduceAdd, vcells, vcut, cutSK, cutVK, cutNK, fillV, spl, Nat.reduceLeDiff, V.isNil, bne_self_eq_false]
        exact exitRes0 hw h
    rw [if_neg (byte_ne rfl g4)] at h
    refine chooseK_split (fun g5 => ?_) (fun g5 => ?_) <;> simp -implicitDefEqProofs only [g5, List.append_assoc, getL, getL0, setL, setL0, List.set_cons_zero, List.set_cons_succ, hcc, wset, tailW, tailEnd, isLenV, isOneV, vop, vbin, vbinI, vun, ↓reduceIte, Nat.reduceEqDiff, Nat.reduceAdd, vcells, vcut, cutSK, cutVK, cutNK, fillV, spl, Nat.reduceLeDiff, V.isNil, bne_self_eq_false]
    · have e : byteAt s j = (91 : UInt8) := byte_eq rfl g5
      have hl0 : lim = false := by
        cases hl : lim with
        | false => rfl
        | true => rw [hl, e] at hb; exact absurd (by decide) hb
      rw [if_neg (by rw [e]; decide), if_pos e] at h
      refine arr_C hs (by omega) (hrec hl0) hprog (herr hl0) hsk hjl (by show (byteAt s j).toNat = 91; rw [e]; rfl) ?_
      have h : Q (.ret (resV (match elemS (arrStep rec) s 93 j [] with | .ok (is, i1) => (.ok (jv 4 false 0 [] is [] j, i1) : Res JV) | .error x => .error x))) σ := h
      show itK _ _ _ _ (.ret (resV (match elemS (arrStep rec) s 93 j [] with | .ok (is, i1) => (.ok (jv 4 false 0 [] is [] j, i1) : Res JV) | .error x => .error x))) _
      obtain ⟨cs, hcs, hl9⟩ := resV_cells (match elemS (arrStep rec) s 93 j [] with | .ok (is, i1) => (.ok (jv 4 false 0 [] is [] j, i1) : Res JV) | .error x => .error x)
      have hcl := resV_clean σ.toks.length (match elemS (arrStep rec) s 93 j [] with | .ok (is, i1) => (.ok (jv 4 false 0 [] is [] j, i1) : Res JV) | .error x => .error x)
      have hft := resV_fits σ.objs.length σ.maps.length σ.toks.length (match elemS (arrStep rec) s 93 j [] with | .ok (is, i1) => (.ok (jv 4 false 0 [] is [] j, i1) : Res JV) | .error x => .error x)
      rw [hcs] at h hcl hft ⊢
      have ht9 : List.take 9 cs = cs := List.take_of_length_le (by omega)
      have hd9 : List.drop 9 cs = [] := List.drop_of_length_le (by omega)
      simp -implicitDefEqProofs only [hl9, ht9, List.append_assoc, getL, getL0, setL, setL0, List.set_cons_zero, List.set_cons_succ, hcc, wset, tailW, tailEnd, isLenV, isOneV, vop, vbin, vbinI, vun, ↓reduceIte, Nat.reduceEqDiff, Nat.reduceAdd, vcells, vcut, cutSK, cutVK, cutNK, fillV, spl, Nat.reduceLeDiff, V.isNil, bne_self_eq_false]
      exact exitNew hw hcl hft h
    refine chooseK_split (fun g6 => ?_) (fun g6 => ?_) <;> simp -implicitDefEqProofs only [g6, List.append_assoc, getL, getL0, setL, setL0, List.set_cons_zero, List.set_cons_succ, hcc, wset, tailW, tailEnd, isLenV, isOneV, vop, vbin, vbinI, vun, ↓reduceIte, Nat.reduceEqDiff, Nat.reduceAdd, vcells, vcut, cutSK, cutVK, cutNK, fillV, spl, Nat.reduceLeDiff, V.isNil, bne_self_eq_false]
    · have e : byteAt s j = (123 : UInt8) := byte_eq rfl g6
      have hl0 : lim = false := by
        cases hl : lim with
        | false => rfl
        | true => rw [hl, e] at hb; exact absurd (by decide) hb
      rw [if_neg (by rw [e]; decide), if_neg (by rw [e]; decide), if_pos e] at h
      refine obj_C hs (by omega) (hrec hl0) hprog (herr hl0) hsk hjl (by show (byteAt s j).toNat = 123; rw [e]; rfl) ?_
      have h : Q (.ret (resV (match elemS (objStep rec s) s 125 j [] with | .ok (ms, i1) => (.ok (jv 5 false 0 [] [] ms j, i1) : Res JV) | .error x => .error x))) σ := h
      show itK _ _ _ _ (.ret (resV (match elemS (objStep rec s) s 125 j [] with | .ok (ms, i1) => (.ok (jv 5 false 0 [] [] ms j, i1) : Res JV) | .error x => .error x))) _
      obtain ⟨cs, hcs, hl9⟩ := resV_cells (match elemS (objStep rec s) s 125 j [] with | .ok (ms, i1) => (.ok (jv 5 false 0 [] [] ms j, i1) : Res JV) | .error x => .error x)
      have hcl := resV_clean σ.toks.length (match elemS (objStep rec s) s 125 j [] with | .ok (ms, i1) => (.ok (jv 5 false 0 [] [] ms j, i1) : Res JV) | .error x => .error x)
      have hft := resV_fits σ.objs.length σ.maps.length σ.toks.length (match elemS (objStep rec s) s 125 j [] with | .ok (ms, i1) => (.ok (jv 5 false 0 [] [] ms j, i1) : Res JV) | .error x => .error x)
      rw [hcs] at h hcl hft ⊢
      have ht9 : List.take 9 cs = cs := List.take_of_length_le (by omega)
      have hd9 : List.drop 9 cs = [] := List.drop_of_length_le (by omega)
      simp -implicitDefEqProofs only [hl9, ht9, List.append_assoc, getL, getL0, setL, setL0, List.set_cons_zero, List.set_cons_succ, hcc, wset, tailW, tailEnd, isLenV, isOneV, vop, vbin, vbinI, vun, ↓reduceIte, Nat.reduceEqDiff, Nat.reduceAdd, vcells, vcut, cutSK, cutVK, cutNK, fillV, spl, Nat.reduceLeDiff, V.isNil, bne_self_eq_false]
      exact exitNew hw hcl hft h
    refine ⟨by omega, ?_⟩
    have n5 : byteAt s j ≠ 91 := byte_ne rfl g5
    have n6 : byteAt s j ≠ 123 := byte_ne rfl g6
    refine chooseK_split (fun g7 => ?_) (fun g7 => ?_) <;> simp -implicitDefEqProofs only [g7, List.append_assoc, getL, getL0, setL, setL0, List.set_cons_zero, List.set_cons_succ, hcc, wset, tailW, tailEnd, isLenV, isOneV, vop, vbin, vbinI, vun, ↓reduceIte, Nat.reduceEqDiff, Nat.reduceAdd, vcells, vcut, cutSK, cutVK, cutNK, fillV, spl, Nat.reduceLeDiff, V.isNil, bne_self_eq_false]
    · refine ⟨by omega, ?_⟩
      have n7 : byteAt s j ≠ 45 := fun e => by rw [e] at g7; cases g7
      refine chooseK_split (fun g8 => ?_) (fun g8 => ?_) <;> simp -implicitDefEqProofs only [g8, List.append_assoc, getL, getL0, setL, setL0, List.set_cons_zero, List.set_cons_succ, hcc, wset, tailW, tailEnd, isLenV, isOneV, vop, vbin, vbinI, vun, ↓reduceIte, Nat.reduceEqDiff, Nat.reduceAdd, vcells, vcut, cutSK, cutVK, cutNK, fillV, spl, Nat.reduceLeDiff, V.isNil, bne_self_eq_false]
      · rw [if_neg (fun hh => hh.elim n7 (fun hh => by simp at g8; omega)), if_neg n5, if_neg n6] at h
        refine r11wrong_C hle ?_
        obtain ⟨cs, hcs, hl9⟩ := resV_cells (.error (wrongR s j))
        have hcl := resV_clean σ.toks.length (.error (wrongR s j))
        have hft := resV_fits σ.objs.length σ.maps.length σ.toks.length (.error (wrongR s j))
        rw [hcs] at h hcl hft ⊢
        have ht9 : List.take 9 cs = cs := List.take_of_length_le (by omega)
        have hd9 : List.drop 9 cs = [] := List.drop_of_length_le (by omega)
        simp -implicitDefEqProofs only [hl9, ht9, List.append_assoc, getL, getL0, setL, setL0, List.set_cons_zero, List.set_cons_succ, hcc, wset, tailW, tailEnd, isLenV, isOneV, vop, vbin, vbinI, vun, ↓reduceIte, Nat.reduceEqDiff, Nat.reduceAdd, vcells, vcut, cutSK, cutVK, cutNK, fillV, spl, Nat.reduceLeDiff, V.isNil, bne_self_eq_false]
        exact exitNew hw hcl hft h
      refine ⟨by omega, ?_⟩
      refine chooseK_split (fun g9 => ?_) (fun g9 => ?_) <;> simp -implicitDefEqProofs only [g9, List.append_assoc, getL, getL0, setL, setL0, List.set_cons_zero, List.set_cons_succ, hcc, wset, tailW, tailEnd, isLenV, isOneV, vop, vbin, vbinI, vun, ↓reduceIte, Nat.reduceEqDiff, Nat.reduceAdd, vcells, vcut, cutSK, cutVK, cutNK, fillV, spl, Nat.reduceLeDiff, V.isNil, bne_self_eq_false]
      · rw [if_neg (fun hh => hh.elim n7 (fun hh => by simp at g9; omega)), if_neg n5, if_neg n6] at h
        refine r11wrong_C hle ?_
        obtain ⟨cs, hcs, hl9⟩ := resV_cells (.error (wrongR s j))
        have hcl := resV_clean σ.toks.length (.error (wrongR s j))
        have hft := resV_fits σ.objs.length σ.maps.length σ.toks.length (.error (wrongR s j))
        rw [hcs] at h hcl hft ⊢
        have ht9 : List.take 9 cs = cs := List.take_of_length_le (by omega)
        have hd9 : List.drop 9 cs = [] := List.drop_of_length_le (by omega)
        simp -implicitDefEqProofs only [hl9, ht9, List.append_assoc, getL, getL0, setL, setL0, List.set_cons_zero, List.set_cons_succ, hcc, wset, tailW, tailEnd, isLenV, isOneV, vop, vbin, vbinI, vun, ↓reduceIte, Nat.reduceEqDiff, Nat.reduceAdd, vcells, vcut, cutSK, cutVK, cutNK, fillV, spl, Nat.reduceLeDiff, V.isNil, bne_self_eq_false]
        exact exitNew hw hcl hft h
      have hn : byteAt s j = 45 ∨ 48 ≤ (byteAt s j).toNat ∧ (byteAt s j).toNat ≤ 57 := .inr (by simp at g8 g9; omega)
      rw [if_pos hn] at h
      rw [numS_numR] at h
      refine LoopP.intro (fun n fr σ' => ∃ (p : Nat), j ≤ p ∧ p ≤ s.length ∧ n = s.length - p ∧ numE s p = numE s j ∧ fr 0 = .str s ∧ fr 1 = .int .i64 (j : Int) ∧ fr 6 = .ref (some (σ.objs.length, 0)) ∧ fr 10 = .int .i64 (p : Int) ∧ σ' = ⟨σ.objs ++ [zero9], σ.maps, σ.toks, σ.tys ++ [53], σ.tts⟩) (s.length - j) ?_ ?_
      · exact ⟨j, by omega, by omega, rfl, rfl, rfl, rfl, rfl, rfl, rfl⟩
      rintro n fr σ' ⟨p, hpj, hp, rfl, hpe, f0, f1, f6, f10, rfl⟩
      simp -implicitDefEqProofs only [f0, f1, f6, f10, List.append_assoc, getL, getL0, setL, setL0, List.set_cons_zero, List.set_cons_succ, wset, tailW, tailEnd, isLenV, isOneV, vop, vbin, vbinI, vun, ↓reduceIte, Nat.reduceEqDiff, Nat.reduceAdd, vcells, vcut, cutSK, cutVK, cutNK, fillV, spl, Nat.reduceLeDiff, V.isNil, bne_self_eq_false]
      refine chooseK_split (fun n1 => ?_) (fun n1 => ?_) <;> simp -implicitDefEqProofs only [n1, f0, f1, f6, f10, List.append_assoc, getL, getL0, setL, setL0, List.set_cons_zero, List.set_cons_succ, wset, tailW, tailEnd, isLenV, isOneV, vop, vbin, vbinI, vun, ↓reduceIte, Nat.reduceEqDiff, Nat.reduceAdd, vcells, vcut, cutSK, cutVK, cutNK, fillV, spl, Nat.reduceLeDiff, V.isNil, bne_self_eq_false]
      · have hpl : p < s.length := by simp at n1; omega
        have hst := numE_step hpl
        refine ⟨by omega, ?_⟩
        refine r11numeric_C ?_
        simp -implicitDefEqProofs only [f0, f1, f6, f10, List.append_assoc, getL, getL0, setL, setL0, List.set_cons_zero, List.set_cons_succ, wset, tailW, tailEnd, isLenV, isOneV, vop, vbin, vbinI, vun, ↓reduceIte, Nat.reduceEqDiff, Nat.reduceAdd, vcells, vcut, cutSK, cutVK, cutNK, fillV, spl, Nat.reduceLeDiff, V.isNil, bne_self_eq_false]
        refine chooseK_split (fun n2 => ?_) (fun n2 => ?_) <;> simp -implicitDefEqProofs only [n2, f0, f1, f6, f10, List.append_assoc, getL, getL0, setL, setL0, List.set_cons_zero, List.set_cons_succ, wset, tailW, tailEnd, isLenV, isOneV, vop, vbin, vbinI, vun, ↓reduceIte, Nat.reduceEqDiff, Nat.reduceAdd, vcells, vcut, cutSK, cutVK, cutNK, fillV, spl, Nat.reduceLeDiff, V.isNil, bne_self_eq_false]
        · rw [if_pos n2] at hst
          rw [wrap64 (by omega)]
          exact ⟨s.length - (p + 1), by omega, p + 1, by omega, by omega, rfl, by rw [← hpe, hst], f0, f1, f6, rfl, rfl⟩
        · rw [if_neg (by rw [n2]; simp)] at hst
          have hpp : p = numE s j := by rw [← hpe, hst]
          have hnl := numE_le hle
          refine ⟨by omega, by omega, ?_⟩
          rw [hpp, cut_num]
          have hln : (numT (s.drop j)).length ≤ s.length := by have := numT_len (s.drop j); rw [List.length_drop] at this; omega
          refine refNumber_C (by unfold big; omega) ?_
          cases hnr : numR (numT (s.drop j)) with
          | none =>
            rw [hnr] at h
            intro nn
            try simp -implicitDefEqProofs only [zero9, f0, f1, f6, f10, List.append_assoc, getL, getL0, setL, setL0, List.set_cons_zero, List.set_cons_succ, wset, tailW, tailEnd, isLenV, isOneV, vop, vbin, vbinI, vun, ↓reduceIte, Nat.reduceEqDiff, Nat.reduceAdd, vcells, vcut, cutSK, cutVK, cutNK, fillV, spl, Nat.reduceLeDiff, V.isNil, bne_self_eq_false]
            exact exitRes0 hw h
          | some v =>
            rw [hnr] at h
            try simp -implicitDefEqProofs only [zero9, f0, f1, f6, f10, List.append_assoc, getL, getL0, setL, setL0, List.set_cons_zero, List.set_cons_succ, wset, tailW, tailEnd, isLenV, isOneV, vop, vbin, vbinI, vun, ↓reduceIte, Nat.reduceEqDiff, Nat.reduceAdd, vcells, vcut, cutSK, cutVK, cutNK, fillV, spl, Nat.reduceLeDiff, V.isNil, bne_self_eq_false]
            have e : p = j + (numT (s.drop j)).length := hpp
            rw [e]
            exact exitRes0 hw h
      · have hpp : p = numE s j := by
          have : p = s.length := by simp at n1; omega
          rw [← hpe, this, numE_end]
        have hnl := numE_le hle
        refine ⟨by omega, by omega, ?_⟩
        rw [hpp, cut_num]
        have hln : (numT (s.drop j)).length ≤ s.length := by have := numT_len (s.drop j); rw [List.length_drop] at this; omega
        refine refNumber_C (by unfold big; omega) ?_
        cases hnr : numR (numT (s.drop j)) with
        | none =>
          rw [hnr] at h
          intro nn
          try simp -implicitDefEqProofs only [zero9, f0, f1, f6, f10, List.append_assoc, getL, getL0, setL, setL0, List.set_cons_zero, List.set_cons_succ, wset, tailW, tailEnd, isLenV, isOneV, vop, vbin, vbinI, vun, ↓reduceIte, Nat.reduceEqDiff, Nat.reduceAdd, vcells, vcut, cutSK, cutVK, cutNK, fillV, spl, Nat.reduceLeDiff, V.isNil, bne_self_eq_false]
          exact exitRes0 hw h
        | some v =>
          rw [hnr] at h
          try simp -implicitDefEqProofs only [zero9, f0, f1, f6, f10, List.append_assoc, getL, getL0, setL, setL0, List.set_cons_zero, List.set_cons_succ, wset, tailW, tailEnd, isLenV, isOneV, vop, vbin, vbinI, vun, ↓reduceIte, Nat.reduceEqDiff, Nat.reduceAdd, vcells, vcut, cutSK, cutVK, cutNK, fillV, spl, Nat.reduceLeDiff, V.isNil, bne_self_eq_false]
          have e : p = j + (numT (s.drop j)).length := hpp
          rw [e]
          exact exitRes0 hw h
    · have n7 : byteAt s j = 45 := byte_eq rfl (by simpa using g7)
      have hn : byteAt s j = 45 ∨ 48 ≤ (byteAt s j).toNat ∧ (byteAt s j).toNat ≤ 57 := .inl n7
      rw [if_pos hn] at h
      rw [numS_numR] at h
      refine LoopP.intro (fun n fr σ' => ∃ (p : Nat), j ≤ p ∧ p ≤ s.length ∧ n = s.length - p ∧ numE s p = numE s j ∧ fr 0 = .str s ∧ fr 1 = .int .i64 (j : Int) ∧ fr 6 = .ref (some (σ.objs.length, 0)) ∧ fr 10 = .int .i64 (p : Int) ∧ σ' = ⟨σ.objs ++ [zero9], σ.maps, σ.toks, σ.tys ++ [53], σ.tts⟩) (s.length - j) ?_ ?_
      · exact ⟨j, by omega, by omega, rfl, rfl, rfl, rfl, rfl, rfl, rfl⟩
      rintro n fr σ' ⟨p, hpj, hp, rfl, hpe, f0, f1, f6, f10, rfl⟩
      simp -implicitDefEqProofs only [f0, f1, f6, f10, List.append_assoc, getL, getL0, setL, setL0, List.set_cons_zero, List.set_cons_succ, wset, tailW, tailEnd, isLenV, isOneV, vop, vbin, vbinI, vun, ↓reduceIte, Nat.reduceEqDiff, Nat.reduceAdd, vcells, vcut, cutSK, cutVK, cutNK, fillV, spl, Nat.reduceLeDiff, V.isNil, bne_self_eq_false]
      refine chooseK_split (fun n1 => ?_) (fun n1 => ?_) <;> simp -implicitDefEqProofs only [n1, f0, f1, f6, f10, List.append_assoc, getL, getL0, setL, setL0, List.set_cons_zero, List.set_cons_succ, wset, tailW, tailEnd, isLenV, isOneV, vop, vbin, vbinI, vun, ↓reduceIte, Nat.reduceEqDiff, Nat.reduceAdd, vcells, vcut, cutSK, cutVK, cutNK, fillV, spl, Nat.reduceLeDiff, V.isNil, bne_self_eq_false]
      · have hpl : p < s.length := by simp at n1; omega
        have hst := numE_step hpl
        refine ⟨by omega, ?_⟩
        refine r11numeric_C ?_
        simp -implicitDefEqProofs only [f0, f1, f6, f10, List.append_assoc, getL, getL0, setL, setL0, List.set_cons_zero, List.set_cons_succ, wset, tailW, tailEnd, isLenV, isOneV, vop, vbin, vbinI, vun, ↓reduceIte, Nat.reduceEqDiff, Nat.reduceAdd, vcells, vcut, cutSK, cutVK, cutNK, fillV, spl, Nat.reduceLeDiff, V.isNil, bne_self_eq_false]
        refine chooseK_split (fun n2 => ?_) (fun n2 => ?_) <;> simp -implicitDefEqProofs only [n2, f0, f1, f6, f10, List.append_assoc, getL, getL0, setL, setL0, List.set_cons_zero, List.set_cons_succ, wset, tailW, tailEnd, isLenV, isOneV, vop, vbin, vbinI, vun, ↓reduceIte, Nat.reduceEqDiff, Nat.reduceAdd, vcells, vcut, cutSK, cutVK, cutNK, fillV, spl, Nat.reduceLeDiff, V.isNil, bne_self_eq_false]
        · rw [if_pos n2] at hst
          rw [wrap64 (by omega)]
          exact ⟨s.length - (p + 1), by omega, p + 1, by omega, by omega, rfl, by rw [← hpe, hst], f0, f1, f6, rfl, rfl⟩
        · rw [if_neg (by rw [n2]; simp)] at hst
          have hpp : p = numE s j := by rw [← hpe, hst]
          have hnl := numE_le hle
          refine ⟨by omega, by omega, ?_⟩
          rw [hpp, cut_num]
          have hln : (numT (s.drop j)).length ≤ s.length := by have := numT_len (s.drop j); rw [List.length_drop] at this; omega
          refine refNumber_C (by unfold big; omega) ?_
          cases hnr : numR (numT (s.drop j)) with
          | none =>
            rw [hnr] at h
            intro nn
            try simp -implicitDefEqProofs only [zero9, f0, f1, f6, f10, List.append_assoc, getL, getL0, setL, setL0, List.set_cons_zero, List.set_cons_succ, wset, tailW, tailEnd, isLenV, isOneV, vop, vbin, vbinI, vun, ↓reduceIte, Nat.reduceEqDiff, Nat.reduceAdd, vcells, vcut, cutSK, cutVK, cutNK, fillV, spl, Nat.reduceLeDiff, V.isNil, bne_self_eq_false]
            exact exitRes0 hw h
          | some v =>
            rw [hnr] at h
            try simp -implicitDefEqProofs only [zero9, f0, f1, f6, f10, List.append_assoc, getL, getL0, setL, setL0, List.set_cons_zero, List.set_cons_succ, wset, tailW, tailEnd, isLenV, isOneV, vop, vbin, vbinI, vun, ↓reduceIte, Nat.reduceEqDiff, Nat.reduceAdd, vcells, vcut, cutSK, cutVK, cutNK, fillV, spl, Nat.reduceLeDiff, V.isNil, bne_self_eq_false]
            have e : p = j + (numT (s.drop j)).length := hpp
            rw [e]
            exact exitRes0 hw h
      · have hpp : p = numE s j := by
          have : p = s.length := by simp at n1; omega
          rw [← hpe, this, numE_end]
        have hnl := numE_le hle
        refine ⟨by omega, by omega, ?_⟩
        rw [hpp, cut_num]
        have hln : (numT (s.drop j)).length ≤ s.length := by have := numT_len (s.drop j); rw [List.length_drop] at this; omega
        refine refNumber_C (by unfold big; omega) ?_
        cases hnr : numR (numT (s.drop j)) with
        | none =>
          rw [hnr] at h
          intro nn
          try simp -implicitDefEqProofs only [zero9, f0, f1, f6, f10, List.append_assoc, getL, getL0, setL, setL0, List.set_cons_zero, List.set_cons_succ, wset, tailW, tailEnd, isLenV, isOneV, vop, vbin, vbinI, vun, ↓reduceIte, Nat.reduceEqDiff, Nat.reduceAdd, vcells, vcut, cutSK, cutVK, cutNK, fillV, spl, Nat.reduceLeDiff, V.isNil, bne_self_eq_false]
          exact exitRes0 hw h
        | some v =>
          rw [hnr] at h
          try simp -implicitDefEqProofs only [zero9, f0, f1, f6, f10, List.append_assoc, getL, getL0, setL, setL0, List.set_cons_zero, List.set_cons_succ, wset, tailW, tailEnd, isLenV, isOneV, vop, vbin, vbinI, vun, ↓reduceIte, Nat.reduceEqDiff, Nat.reduceAdd, vcells, vcut, cutSK, cutVK, cutNK, fillV, spl, Nat.reduceLeDiff, V.isNil, bne_self_eq_false]
          have e : p = j + (numT (s.drop j)).length := hpp
          rw [e]
          exact exitRes0 hw h

theorem r11value_C {s : List UInt8} (hs : s.length ≤ big) : ∀ k, k ≤ 100 → ValR s (101 - k) (valueS k s)
  | 0, _ => r11value_body hs (by omega) (by decide) (fun h => by cases h) (fun _ _ _ _ h => by cases h) (fun h => by cases h) (fun _ => rfl)
  | k + 1, h => r11value_body hs (by omega) (by rw [eq_comm, decide_eq_false_iff_not]; omega) (fun _ => by
      have := r11value_C hs k (by omega)
      rwa [show 101 - (k + 1) + 1 = 101 - k by omega]) (valueS_prog s k) (fun _ => valueS_err s k) (fun i => valueS_skip s i k)
end Go.Proofs.YtgdcdkgmeomhpaaGreatDoor

namespace Go.Proofs.YtgdcdkgmeomhpaaGreatDoor
open Go Go.Vs
set_option maxRecDepth 100000

/-- law11Match -/
def vf_law11Match : VFunc :=
  { m := 41, code := (.seq (.reg [⟨(some 2), none, (.op (.mov (.c (.bool false))))⟩])
    (.seq (.seq (.reg [⟨(some 9), none, (.op (.mov (.t 0)))⟩, ⟨(some 10), none, (.op (.lenS (.t 9)))⟩, ⟨(some 11), none, (.op (.bin .gtr (.t 10) (.c (.int .i64 3000))))⟩])
    (.cond (.t 11) (.seq (.reg [⟨(some 12), none, (.call 5 [])⟩, ⟨(some 2), none, (.op (.mov (.t 12)))⟩])
    .ret) .skip))
    (.seq (.reg [⟨(some 14), none, (.op (.mov (.t 0)))⟩, ⟨(some 15), none, (.call 6 [(.t 14)])⟩, ⟨(some 13), none, (.op (.mov (.t 15)))⟩, ⟨(some 16), none, (.op (.ext (.t 13) 0))⟩, ⟨(some 17), none, (.op (.ext (.t 13) 1))⟩, ⟨(some 18), none, (.op (.ext (.t 13) 2))⟩, ⟨(some 3), none, (.op (.alloc 26 [(.int .i64 0), (.bool false), (.int .i64 0), (.str []), (.slc false [] .no), (.slc false [] .no), (.int .i64 0)]))⟩, ⟨none, none, (.op (.store 7 (.t 3) (.t 16)))⟩, ⟨(some 4), none, (.op (.mov (.t 17)))⟩, ⟨(some 5), none, (.op (.mov (.t 18)))⟩])
    (.seq (.reg [⟨(some 20), none, (.op (.mov (.t 0)))⟩, ⟨(some 21), none, (.call 7 [(.t 20)])⟩, ⟨(some 19), none, (.op (.mov (.t 21)))⟩, ⟨(some 22), none, (.op (.ext (.t 19) 0))⟩, ⟨(some 23), none, (.op (.ext (.t 19) 1))⟩, ⟨(some 24), none, (.op (.ext (.t 19) 2))⟩, ⟨(some 6), none, (.op (.alloc 26 [(.int .i64 0), (.bool false), (.int .i64 0), (.str []), (.slc false [] .no), (.slc false [] .no), (.int .i64 0)]))⟩, ⟨none, none, (.op (.store 7 (.t 6) (.t 22)))⟩, ⟨(some 7), none, (.op (.mov (.t 23)))⟩, ⟨(some 8), none, (.op (.mov (.t 24)))⟩])
    (.seq (.reg [⟨(some 25), none, (.call 5 [])⟩, ⟨(some 26), none, (.op (.mov (.t 25)))⟩, ⟨(some 27), (some (26, true)), (.op (.loadA 7 (.t 3)))⟩, ⟨(some 28), (some (26, true)), (.op (.loadA 7 (.t 6)))⟩, ⟨(some 29), (some (26, true)), (.call 8 [(.t 27), (.t 28), (.c (.bool true))])⟩, ⟨(some 30), none, (.op (.pick (.t 26) (.t 29) (.c (.bool false))))⟩, ⟨(some 31), none, (.op (.mov (.t 30)))⟩, ⟨(some 32), (some (31, true)), (.op (.mov (.t 4)))⟩, ⟨(some 33), (some (31, true)), (.op (.mov (.t 7)))⟩, ⟨(some 34), (some (31, true)), (.op (.bin .eql (.t 32) (.t 33)))⟩, ⟨(some 35), none, (.op (.pick (.t 31) (.t 34) (.c (.bool false))))⟩, ⟨(some 36), none, (.op (.mov (.t 35)))⟩, ⟨(some 37), (some (36, true)), (.op (.mov (.t 5)))⟩, ⟨(some 38), (some (36, true)), (.op (.mov (.t 8)))⟩, ⟨(some 39), (some (36, true)), (.op (.bin .eql (.t 37) (.t 38)))⟩, ⟨(some 40), none, (.op (.pick (.t 36) (.t 39) (.c (.bool false))))⟩, ⟨(some 2), none, (.op (.mov (.t 40)))⟩])
    .ret))))),
    res := [(.t 2)] }

theorem cf_law11Match : cfunc Go.Proofs.Tryz.prog 3 = some vf_law11Match := by kernel_rfl

/-- law11Spaces -/
def vf_law11Spaces : VFunc :=
  { m := 123, code := (.seq (.reg [⟨(some 4), none, (.op (.mov (.c (.bool false))))⟩])
    (.seq (.seq (.reg [⟨(some 17), none, (.op (.mov (.t 0)))⟩, ⟨(some 18), none, (.op (.lenS (.t 17)))⟩, ⟨(some 19), none, (.op (.bin .gtr (.t 18) (.c (.int .i64 3000))))⟩])
    (.cond (.t 19) (.seq (.reg [⟨(some 20), none, (.call 5 [])⟩, ⟨(some 4), none, (.op (.mov (.t 20)))⟩])
    .ret) .skip))
    (.seq (.reg [⟨(some 22), none, (.op (.mov (.t 0)))⟩, ⟨(some 23), none, (.call 7 [(.t 22)])⟩, ⟨(some 21), none, (.op (.mov (.t 23)))⟩, ⟨(some 24), none, (.op (.ext (.t 21) 0))⟩, ⟨(some 25), none, (.op (.ext (.t 21) 1))⟩, ⟨(some 26), none, (.op (.ext (.t 21) 2))⟩, ⟨(some 5), none, (.op (.alloc 26 [(.int .i64 0), (.bool false), (.int .i64 0), (.str []), (.slc false [] .no), (.slc false [] .no), (.int .i64 0)]))⟩, ⟨none, none, (.op (.store 7 (.t 5) (.t 24)))⟩, ⟨(some 6), none, (.op (.mov (.t 25)))⟩, ⟨(some 7), none, (.op (.mov (.t 26)))⟩])
    (.seq (.seq (.reg [⟨(some 27), none, (.op (.mov (.t 7)))⟩, ⟨(some 28), none, (.op (.bin .neq (.t 27) (.c (.int .i64 0))))⟩, ⟨(some 29), none, (.op (.mov (.t 28)))⟩, ⟨(some 30), (some (29, false)), (.op (.mov (.t 0)))⟩, ⟨(some 31), (some (29, false)), (.call 9 [(.t 30), (.c (.str [239]))])⟩, ⟨(some 32), none, (.op (.pick (.t 29) (.c (.bool true)) (.t 31)))⟩, ⟨(some 33), none, (.op (.mov (.t 32)))⟩, ⟨(some 34), (some (33, false)), (.op (.loadA 7 (.t 5)))⟩, ⟨(some 35), (some (33, false)), (.call 10 [(.t 34)])⟩, ⟨(some 36), (some (33, false)), (.op (.bin .add (.t 35) (.c (.int .i64 2))))⟩, ⟨(some 37), (some (33, false)), (.op (.bin .gtr (.t 36) (.c (.int .i64 100))))⟩, ⟨(some 38), none, (.op (.pick (.t 33) (.c (.bool true)) (.t 37)))⟩])
    (.cond (.t 38) (.seq (.reg [⟨(some 39), none, (.call 5 [])⟩, ⟨(some 4), none, (.op (.mov (.t 39)))⟩])
    .ret) .skip))
    (.seq (.reg [⟨(some 40), none, (.op (.build [(.str []), (.str []), (.str []), (.str [])] [((0, 1), (.c (.str [32]))), ((1, 1), (.c (.str [10]))), ((2, 1), (.c (.str [9, 13]))), ((3, 1), (.c (.str [])))]))⟩, ⟨(some 41), none, (.op (.mov (.t 1)))⟩, ⟨(some 42), none, (.op (.bin .rem (.t 41) (.c (.int .u8 4))))⟩, ⟨(some 43), none, (.op (.idxL 4 (.t 40) (.t 42)))⟩, ⟨(some 8), none, (.op (.mov (.t 43)))⟩])
    (.seq (.reg [⟨(some 45), none, (.op (.mov (.t 8)))⟩, ⟨(some 46), none, (.op (.mov (.t 0)))⟩, ⟨(some 47), none, (.op (.bin .add (.t 45) (.t 46)))⟩, ⟨(some 48), none, (.op (.mov (.t 8)))⟩, ⟨(some 49), none, (.op (.bin .add (.t 47) (.t 48)))⟩, ⟨(some 50), none, (.call 6 [(.t 49)])⟩, ⟨(some 44), none, (.op (.mov (.t 50)))⟩, ⟨(some 51), none, (.op (.ext (.t 44) 0))⟩, ⟨(some 52), none, (.op (.ext (.t 44) 1))⟩, ⟨(some 53), none, (.op (.ext (.t 44) 2))⟩, ⟨(some 9), none, (.op (.alloc 26 [(.int .i64 0), (.bool false), (.int .i64 0), (.str []), (.slc false [] .no), (.slc false [] .no), (.int .i64 0)]))⟩, ⟨none, none, (.op (.store 7 (.t 9) (.t 51)))⟩, ⟨(some 10), none, (.op (.mov (.t 52)))⟩, ⟨(some 11), none, (.op (.mov (.t 53)))⟩])
    (.seq (.reg [⟨(some 55), none, (.op (.mov (.t 8)))⟩, ⟨(some 56), none, (.op (.bin .add (.c (.str [91])) (.t 55)))⟩, ⟨(some 57), none, (.op (.mov (.t 0)))⟩, ⟨(some 58), none, (.op (.bin .add (.t 56) (.t 57)))⟩, ⟨(some 59), none, (.op (.mov (.t 8)))⟩, ⟨(some 60), none, (.op (.bin .add (.t 58) (.t 59)))⟩, ⟨(some 61), none, (.op (.bin .add (.t 60) (.c (.str [44]))))⟩, ⟨(some 62), none, (.op (.mov (.t 8)))⟩, ⟨(some 63), none, (.op (.bin .add (.t 61) (.t 62)))⟩, ⟨(some 64), none, (.op (.bin .add (.t 63) (.c (.str [123]))))⟩, ⟨(some 65), none, (.op (.mov (.t 8)))⟩, ⟨(some 66), none, (.op (.bin .add (.t 64) (.t 65)))⟩, ⟨(some 67), none, (.op (.bin .add (.t 66) (.c (.str [34, 107, 34]))))⟩, ⟨(some 68), none, (.op (.mov (.t 8)))⟩, ⟨(some 69), none, (.op (.bin .add (.t 67) (.t 68)))⟩, ⟨(some 70), none, (.op (.bin .add (.t 69) (.c (.str [58]))))⟩, ⟨(some 71), none, (.op (.mov (.t 0)))⟩, ⟨(some 72), none, (.op (.bin .add (.t 70) (.t 71)))⟩, ⟨(some 73), none, (.op (.bin .add (.t 72) (.c (.str [125]))))⟩, ⟨(some 74), none, (.op (.mov (.t 8)))⟩, ⟨(some 75), none, (.op (.bin .add (.t 73) (.t 74)))⟩, ⟨(some 76), none, (.op (.bin .add (.t 75) (.c (.str [93]))))⟩, ⟨(some 77), none, (.call 6 [(.t 76)])⟩, ⟨(some 54), none, (.op (.mov (.t 77)))⟩, ⟨(some 78), none, (.op (.ext (.t 54) 0))⟩, ⟨(some 79), none, (.op (.ext (.t 54) 1))⟩, ⟨(some 80), none, (.op (.ext (.t 54) 2))⟩, ⟨(some 12), none, (.op (.alloc 26 [(.int .i64 0), (.bool false), (.int .i64 0), (.str []), (.slc false [] .no), (.slc false [] .no), (.int .i64 0)]))⟩, ⟨none, none, (.op (.store 7 (.t 12) (.t 78)))⟩, ⟨(some 13), none, (.op (.mov (.t 79)))⟩, ⟨(some 14), none, (.op (.mov (.t 80)))⟩])
    (.seq (.seq (.reg [⟨(some 81), none, (.op (.mov (.t 11)))⟩, ⟨(some 82), none, (.op (.bin .neq (.t 81) (.c (.int .i64 0))))⟩, ⟨(some 83), none, (.op (.mov (.t 82)))⟩, ⟨(some 84), (some (83, false)), (.op (.mov (.t 14)))⟩, ⟨(some 85), (some (83, false)), (.op (.bin .neq (.t 84) (.c (.int .i64 0))))⟩, ⟨(some 86), none, (.op (.pick (.t 83) (.c (.bool true)) (.t 85)))⟩, ⟨(some 87), none, (.op (.mov (.t 86)))⟩, ⟨(some 88), (some (87, false)), (.op (.fadr 4 (.t 12)))⟩, ⟨(some 89), (some (87, false)), (.op (.loadL (.t 88)))⟩, ⟨(some 90), (some (87, false)), (.op (.lenV (.t 89)))⟩, ⟨(some 91), (some (87, false)), (.op (.bin .neq (.t 90) (.c (.int .i64 2))))⟩, ⟨(some 92), none, (.op (.pick (.t 87) (.c (.bool true)) (.t 91)))⟩])
    (.cond (.t 92) (.seq (.reg [⟨(some 4), none, (.op (.mov (.c (.bool false))))⟩])
    .ret) .skip))
    (.seq (.reg [⟨(some 94), none, (.op (.fadr 4 (.t 12)))⟩, ⟨(some 95), none, (.op (.loadL (.t 94)))⟩, ⟨(some 96), none, (.op (.iadV 7 (.t 95) (.c (.int .i64 1))))⟩, ⟨(some 97), none, (.op (.loadA 7 (.t 96)))⟩, ⟨(some 98), none, (.call 11 [(.t 97), (.c (.str [107]))])⟩, ⟨(some 93), none, (.op (.mov (.t 98)))⟩, ⟨(some 99), none, (.op (.ext (.t 93) 0))⟩, ⟨(some 100), none, (.op (.ext (.t 93) 1))⟩, ⟨(some 15), none, (.op (.alloc 26 [(.int .i64 0), (.bool false), (.int .i64 0), (.str []), (.slc false [] .no), (.slc false [] .no), (.int .i64 0)]))⟩, ⟨none, none, (.op (.store 7 (.t 15) (.t 99)))⟩, ⟨(some 16), none, (.op (.mov (.t 100)))⟩])
    (.seq (.draw [⟨⟨(some 101), none, (.call 5 [])⟩, (some [])⟩, ⟨⟨(some 102), none, (.op (.mov (.t 101)))⟩, none⟩, ⟨⟨(some 103), (some (102, true)), (.op (.mov (.t 16)))⟩, none⟩, ⟨⟨(some 104), none, (.op (.pick (.t 102) (.t 103) (.c (.bool false))))⟩, none⟩, ⟨⟨(some 105), none, (.op (.mov (.t 104)))⟩, none⟩, ⟨⟨(some 106), (some (105, true)), (.op (.loadA 7 (.t 5)))⟩, none⟩, ⟨⟨(some 107), (some (105, true)), (.op (.loadA 7 (.t 9)))⟩, none⟩, ⟨⟨(some 108), (some (105, true)), (.call 8 [(.t 106), (.t 107), (.c (.bool false))])⟩, (some [])⟩, ⟨⟨(some 109), none, (.op (.pick (.t 105) (.t 108) (.c (.bool false))))⟩, none⟩, ⟨⟨(some 110), none, (.op (.mov (.t 109)))⟩, none⟩, ⟨⟨(some 111), (some (110, true)), (.op (.loadA 7 (.t 5)))⟩, none⟩, ⟨⟨(some 112), (some (110, true)), (.op (.fadr 4 (.t 12)))⟩, none⟩, ⟨⟨(some 113), (some (110, true)), (.op (.loadL (.t 112)))⟩, none⟩, ⟨⟨(some 114), (some (110, true)), (.op (.iadV 7 (.t 113) (.c (.int .i64 0))))⟩, none⟩, ⟨⟨(some 115), (some (110, true)), (.op (.loadA 7 (.t 114)))⟩, none⟩, ⟨⟨(some 116), (some (110, true)), (.call 8 [(.t 111), (.t 115), (.c (.bool false))])⟩, (some [])⟩, ⟨⟨(some 117), none, (.op (.pick (.t 110) (.t 116) (.c (.bool false))))⟩, none⟩, ⟨⟨(some 118), none, (.op (.mov (.t 117)))⟩, none⟩, ⟨⟨(some 119), (some (118, true)), (.op (.loadA 7 (.t 5)))⟩, none⟩, ⟨⟨(some 120), (some (118, true)), (.op (.loadA 7 (.t 15)))⟩, none⟩, ⟨⟨(some 121), (some (118, true)), (.call 8 [(.t 119), (.t 120), (.c (.bool false))])⟩, (some [])⟩, ⟨⟨(some 122), none, (.op (.pick (.t 118) (.t 121) (.c (.bool false))))⟩, none⟩, ⟨⟨(some 4), none, (.op (.mov (.t 122)))⟩, none⟩])
    .ret)))))))))),
    res := [(.t 4)] }

theorem cf_law11Spaces : cfunc Go.Proofs.Tryz.prog 4 = some vf_law11Spaces := by kernel_rfl

end Go.Proofs.YtgdcdkgmeomhpaaGreatDoor

namespace Go.Proofs.YtgdcdkgmeomhpaaGreatDoor
open Go Go.Vs
set_option maxRecDepth 20000
attribute [local irreducible] chooseK

theorem parseV_clean (k : Nat) (s : List UInt8) : Out.clean k (.ret (parseV s)) = .ret (parseV s) := by
  unfold parseV
  split
  · simp [Out.clean, V.clean, cleanL, JV.enc, JV.clean]
  · simp [Out.clean, V.clean, cleanL, JV.enc, JV.clean]
theorem parseV_fits (n nm k : Nat) (s : List UInt8) : Out.fits n nm k (.ret (parseV s)) = true := by
  unfold parseV
  split
  · simp [Out.fits, V.fits, fitsL, JV.enc, JV.fits]
  · simp [Out.fits, V.fits, fitsL, JV.enc, JV.fits]

theorem take7r (v : JV) (r : List V) : List.take 7 (v.cells ++ r) = v.cells := by rw [List.take_append_of_le_length (by simp [JV.len]), take7]

theorem r11Parse_C {s : List UInt8} {σ : St} {Q : Out → St → Prop} (hs : s.length ≤ big) (h : Q (.ret (parseV s)) σ) : C Xc 7 [.str s] σ Q := by
  have hs' := hs
  unfold big at hs'
  refine bodyW cf_r11Parse (Eq.refl true) fun hw => ?_
  simp -implicitDefEqProofs only [vf_r11Parse, List.append_assoc, getL, getL0, setL, setL0, List.set_cons_zero, List.set_cons_succ, wset, tailW, tailEnd, isLenV, isOneV, vop, vbin, vbinI, vun, ↓reduceIte, Nat.reduceEqDiff, Nat.reduceAdd, vcells, vcut, cutSK, cutVK, cutNK, fillV, spl, Nat.reduceLeDiff, V.isNil, bne_self_eq_false]
  refine r06Has_C (i := 0) (Nat.zero_le _) hs (by decide) ?_
  rw [List.drop_zero]
  by_cases hb : hasPre s [239, 187, 191] = true
  · rw [hb]
    have h3 : 3 ≤ s.length := hasPre_len hb
    simp -implicitDefEqProofs only [List.append_assoc, getL, getL0, setL, setL0, List.set_cons_zero, List.set_cons_succ, wset, tailW, tailEnd, isLenV, isOneV, vop, vbin, vbinI, vun, ↓reduceIte, Nat.reduceEqDiff, Nat.reduceAdd, vcells, vcut, cutSK, cutVK, cutNK, fillV, spl, Nat.reduceLeDiff, V.isNil, bne_self_eq_false]
    unfold parseV parseS at h
    rw [if_pos hb] at h
    have hv := r11value_C hs 100 (Nat.le_refl _)
    refine hv 3 _ _ h3 ?_
    cases hr : valueS 100 s 3 with
    | error x =>
      rw [hr] at h
      have he : ((x.2 : Int) != 0) = true := by
        have := valueS_err s 100 3 x h3 hr
        simpa using this
      simp -implicitDefEqProofs only [resV, res9, zero7, he, List.append_assoc, getL, getL0, setL, setL0, List.set_cons_zero, List.set_cons_succ, wset, tailW, tailEnd, isLenV, isOneV, vop, vbin, vbinI, vun, ↓reduceIte, Nat.reduceEqDiff, Nat.reduceAdd, vcells, vcut, cutSK, cutVK, cutNK, fillV, spl, Nat.reduceLeDiff, V.isNil, bne_self_eq_false]
      exact exitNew hw (by rfl) (by rfl) h
    | ok r =>
      obtain ⟨v, i1⟩ := r
      rw [hr] at h
      simp only at h
      have hp := valueS_prog s 100 3 v i1 h3 hr
      have e00 : ((0 : Int) != 0) = false := rfl
      simp -implicitDefEqProofs only [resV, res9, e00, drop7a, drop8r, JV.len, List.append_assoc, getL, getL0, setL, setL0, List.set_cons_zero, List.set_cons_succ, wset, tailW, tailEnd, isLenV, isOneV, vop, vbin, vbinI, vun, ↓reduceIte, Nat.reduceEqDiff, Nat.reduceAdd, vcells, vcut, cutSK, cutVK, cutNK, fillV, spl, Nat.reduceLeDiff, V.isNil, bne_self_eq_false]
      refine r11spaces_C hp.2 hs ?_
      have hle := skipSp_le hp.2
      simp -implicitDefEqProofs only [List.append_assoc, getL, getL0, setL, setL0, List.set_cons_zero, List.set_cons_succ, wset, tailW, tailEnd, isLenV, isOneV, vop, vbin, vbinI, vun, ↓reduceIte, Nat.reduceEqDiff, Nat.reduceAdd, vcells, vcut, cutSK, cutVK, cutNK, fillV, spl, Nat.reduceLeDiff, V.isNil, bne_self_eq_false]
      refine chooseK_split (fun g1 => ?_) (fun g1 => ?_) <;> simp -implicitDefEqProofs only [g1, List.append_assoc, getL, getL0, setL, setL0, List.set_cons_zero, List.set_cons_succ, wset, tailW, tailEnd, isLenV, isOneV, vop, vbin, vbinI, vun, ↓reduceIte, Nat.reduceEqDiff, Nat.reduceAdd, vcells, vcut, cutSK, cutVK, cutNK, fillV, spl, Nat.reduceLeDiff, V.isNil, bne_self_eq_false]
      · rw [if_pos (by simp at g1; omega)] at h
        exact exitNew hw (by rfl) (by rfl) h
      · rw [if_neg (by simp at g1; omega)] at h
        simp -implicitDefEqProofs only [drop7a, drop8r, JV.len, take7r, take7, List.append_assoc, getL, getL0, setL, setL0, List.set_cons_zero, List.set_cons_succ, wset, tailW, tailEnd, isLenV, isOneV, vop, vbin, vbinI, vun, ↓reduceIte, Nat.reduceEqDiff, Nat.reduceAdd, vcells, vcut, cutSK, cutVK, cutNK, fillV, spl, Nat.reduceLeDiff, V.isNil, bne_self_eq_false]
        refine exitNew hw ?_ ?_ h
        · simp [Out.clean, V.clean, cleanL, JV.enc, JV.clean]
        · simp [Out.fits, V.fits, fitsL, JV.enc, JV.fits]
  · have hb' : hasPre s [239, 187, 191] = false := by simpa using hb
    rw [hb']
    have h0 : 0 ≤ s.length := Nat.zero_le _
    simp -implicitDefEqProofs only [List.append_assoc, getL, getL0, setL, setL0, List.set_cons_zero, List.set_cons_succ, wset, tailW, tailEnd, isLenV, isOneV, vop, vbin, vbinI, vun, ↓reduceIte, Nat.reduceEqDiff, Nat.reduceAdd, vcells, vcut, cutSK, cutVK, cutNK, fillV, spl, Nat.reduceLeDiff, V.isNil, bne_self_eq_false]
    unfold parseV parseS at h
    rw [if_neg hb] at h
    have hv := r11value_C hs 100 (Nat.le_refl _)
    refine hv 0 _ _ h0 ?_
    cases hr : valueS 100 s 0 with
    | error x =>
      rw [hr] at h
      have he : ((x.2 : Int) != 0) = true := by
        have := valueS_err s 100 0 x h0 hr
        simpa using this
      simp -implicitDefEqProofs only [resV, res9, zero7, he, List.append_assoc, getL, getL0, setL, setL0, List.set_cons_zero, List.set_cons_succ, wset, tailW, tailEnd, isLenV, isOneV, vop, vbin, vbinI, vun, ↓reduceIte, Nat.reduceEqDiff, Nat.reduceAdd, vcells, vcut, cutSK, cutVK, cutNK, fillV, spl, Nat.reduceLeDiff, V.isNil, bne_self_eq_false]
      exact exitNew hw (by rfl) (by rfl) h
    | ok r =>
      obtain ⟨v, i1⟩ := r
      rw [hr] at h
      simp only at h
      have hp := valueS_prog s 100 0 v i1 h0 hr
      have e00 : ((0 : Int) != 0) = false := rfl
      simp -implicitDefEqProofs only [resV, res9, e00, drop7a, drop8r, JV.len, List.append_assoc, getL, getL0, setL, setL0, List.set_cons_zero, List.set_cons_succ, wset, tailW, tailEnd, isLenV, isOneV, vop, vbin, vbinI, vun, ↓reduceIte, Nat.reduceEqDiff, Nat.reduceAdd, vcells, vcut, cutSK, cutVK, cutNK, fillV, spl, Nat.reduceLeDiff, V.isNil, bne_self_eq_false]
      refine r11spaces_C hp.2 hs ?_
      have hle := skipSp_le hp.2
      simp -implicitDefEqProofs only [List.append_assoc, getL, getL0, setL, setL0, List.set_cons_zero, List.set_cons_succ, wset, tailW, tailEnd, isLenV, isOneV, vop, vbin, vbinI, vun, ↓reduceIte, Nat.reduceEqDiff, Nat.reduceAdd, vcells, vcut, cutSK, cutVK, cutNK, fillV, spl, Nat.reduceLeDiff, V.isNil, bne_self_eq_false]
      refine chooseK_split (fun g1 => ?_) (fun g1 => ?_) <;> simp -implicitDefEqProofs only [g1, List.append_assoc, getL, getL0, setL, setL0, List.set_cons_zero, List.set_cons_succ, wset, tailW, tailEnd, isLenV, isOneV, vop, vbin, vbinI, vun, ↓reduceIte, Nat.reduceEqDiff, Nat.reduceAdd, vcells, vcut, cutSK, cutVK, cutNK, fillV, spl, Nat.reduceLeDiff, V.isNil, bne_self_eq_false]
      · rw [if_pos (by simp at g1; omega)] at h
        exact exitNew hw (by rfl) (by rfl) h
      · rw [if_neg (by simp at g1; omega)] at h
        simp -implicitDefEqProofs only [drop7a, drop8r, JV.len, take7r, take7, List.append_assoc, getL, getL0, setL, setL0, List.set_cons_zero, List.set_cons_succ, wset, tailW, tailEnd, isLenV, isOneV, vop, vbin, vbinI, vun, ↓reduceIte, Nat.reduceEqDiff, Nat.reduceAdd, vcells, vcut, cutSK, cutVK, cutNK, fillV, spl, Nat.reduceLeDiff, V.isNil, bne_self_eq_false]
        refine exitNew hw ?_ ?_ h
        · simp [Out.clean, V.clean, cleanL, JV.enc, JV.clean]
        · simp [Out.fits, V.fits, fitsL, JV.enc, JV.fits]

theorem strS_len (s : List UInt8) (a : Nat) : ∀ (k i : Nat) (b : List UInt8), i ≤ s.length → (strS s a k i b).2.2 = 0 → (strS s a k i b).1.length + i + 1 ≤ (strS s a k i b).2.1 + b.length
  | 0, i, b, _, h => by cases h
  | k + 1, i, b, hi, h => by
    unfold strS at h ⊢
    split
    · rename_i h0; rw [if_pos h0] at h; cases h
    rename_i h0
    rw [if_neg h0] at h
    dsimp only at h ⊢
    split
    · rename_i h1; rw [if_pos h1] at h; cases h
    rename_i h1
    rw [if_neg h1] at h
    have hd := decT_enc (s.drop i) h1
    rw [List.length_drop] at hd
    split
    · rename_i h2; rw [if_pos h2] at h; cases h
    rename_i h2
    rw [if_neg h2] at h
    split
    · dsimp only; omega
    rename_i h3
    rw [if_neg h3] at h
    split
    · rename_i h4
      rw [if_pos h4] at h
      split
      · rename_i h5; rw [if_pos h5] at h; cases h
      rename_i h5
      rw [if_neg h5] at h
      split
      · rename_i h6; rw [if_pos h6] at h; cases h
      rename_i h6
      rw [if_neg h6] at h
      have hq := seqS_enc (s.drop i) (by rw [List.length_drop]; omega) h6
      rw [List.length_drop] at hq
      have := strS_len s a k _ _ (by omega) h
      rw [List.length_append] at this
      omega
    · rename_i h4
      rw [if_neg h4] at h
      have := strS_len s a k _ _ (by omega) h
      rw [List.length_append] at this
      omega
theorem strP_len {s : List UInt8} {i : Nat} (h : (strP s i).2.2 = 0) : (strP s i).1.length + i + 2 ≤ (strP s i).2.1 := by
  unfold strP at h ⊢
  split
  · rename_i h0
    rw [if_pos h0] at h
    have := strS_len s i _ _ _ (by omega) h
    simp only [List.length_nil] at this
    omega
  · rename_i h0; rw [if_neg h0] at h; cases h

/-- A value is no heavier than its text. -/
def WtR (s : List UInt8) (rec : Nat → Res JV) : Prop := ∀ i v i1, i ≤ s.length → rec i = .ok (v, i1) → i + v.wt ≤ i1
theorem loopS_wt {α : Type} {s : List UInt8} {e : UInt8} {step : Nat → α → Res α} {w : α → Nat} (hst : ∀ i a a' i1, i ≤ s.length → step i a = .ok (a', i1) → i ≤ i1 ∧ i1 ≤ s.length)
    (hw : ∀ i a a' i1, i ≤ s.length → step i a = .ok (a', i1) → i + w a' ≤ i1 + w a) : ∀ (n i : Nat) (a a' : α) (i1 : Nat), i ≤ s.length → loopS step s e n i a = .ok (a', i1) → i + w a' + 1 ≤ i1 + w a
  | 0, _, _, _, _, _, h => by cases h
  | n + 1, i, a, a', i1, hi, h => by
    rw [loopS] at h
    cases hs : step i a with
    | error y => rw [hs] at h; cases h
    | ok r =>
      obtain ⟨a2, i2⟩ := r
      rw [hs] at h
      have hp := hst i a a2 i2 hi hs
      have hw2 := hw i a a2 i2 hi hs
      have hl := skipSp_le hp.2
      have hg := skipSp_ge s i2
      simp only at h
      split at h
      · cases h; omega
      split at h
      · rename_i hc
        have := byteAt_lt (by decide) hc
        have := loopS_wt hst hw n _ a2 a' i1 (by omega) h
        omega
      · cases h
theorem elemS_wt {α : Type} {s : List UInt8} {e : UInt8} {step : Nat → α → Res α} {w : α → Nat} (hst : ∀ i a a' i1, i ≤ s.length → step i a = .ok (a', i1) → i ≤ i1 ∧ i1 ≤ s.length)
    (hw : ∀ i a a' i1, i ≤ s.length → step i a = .ok (a', i1) → i + w a' ≤ i1 + w a) {i i1 : Nat} {a a' : α} (hi : i < s.length) (h : elemS step s e i a = .ok (a', i1)) : i + w a' + 2 ≤ i1 + w a := by
  have hl := skipSp_le (s := s) (i := i + 1) (by omega)
  have hg := skipSp_ge s (i + 1)
  unfold elemS at h
  split at h
  · cases h; omega
  · have := loopS_wt hst hw _ _ _ _ _ hl h
    omega
theorem wtL_app (a b : List JV) : wtL (a ++ b) = wtL a + wtL b := by
  induction a with
  | nil => simp [wtL]
  | cons v r ih => simp only [List.cons_append, wtL, ih]; omega
theorem wtM_app (a b : List JM) : wtM (a ++ b) = wtM a + wtM b := by
  induction a with
  | nil => simp [wtM]
  | cons v r ih => simp only [List.cons_append, wtM, ih]; omega
theorem arrStep_wt {s : List UInt8} {rec : Nat → Res JV} (h : WtR s rec) : ∀ i a a' i1, i ≤ s.length → arrStep rec i a = .ok (a', i1) → i + wtL a' ≤ i1 + wtL a := by
  intro i a a' i1 hi hs
  unfold arrStep at hs
  cases hr : rec i with
  | error y => rw [hr] at hs; cases hs
  | ok r =>
    obtain ⟨v, i2⟩ := r
    rw [hr] at hs
    cases hs
    have := h i v i1 hi hr
    rw [wtL_app, wtL, wtL]
    omega
theorem keyS_wt {s : List UInt8} {j i1 : Nat} {a : List JM} {k : List UInt8} (h : keyS s j a = .ok (k, i1)) : j + k.length + 3 ≤ i1 := by
  unfold keyS at h
  split at h
  · cases h
  split at h
  · cases h
  rename_i h0
  have h0 : (strP s j).2.2 = 0 := Classical.byContradiction h0
  have := strP_len h0
  have := skipSp_ge s (strP s j).2.1
  split at h
  · cases h
  split at h
  · cases h; omega
  · cases h
theorem objStep_wt {s : List UInt8} {rec : Nat → Res JV} (h : WtR s rec) : ∀ i a a' i1, i ≤ s.length → objStep rec s i a = .ok (a', i1) → i + wtM a' ≤ i1 + wtM a := by
  intro i a a' i1 hi hs
  unfold objStep at hs
  rw [memS_key] at hs
  have hle := skipSp_le hi
  have hge := skipSp_ge s i
  cases hk : keyS s (skipSp s i) a with
  | error y => rw [hk] at hs; cases hs
  | ok r =>
    obtain ⟨k, i2⟩ := r
    rw [hk] at hs
    simp only at hs
    have hkl := keyS_le hle hk
    have hkw := keyS_wt hk
    cases hr : rec i2 with
    | error y => rw [hr] at hs; cases hs
    | ok r =>
      obtain ⟨v, i3⟩ := r
      rw [hr] at hs
      cases hs
      have := h i2 v i1 hkl.2 hr
      rw [wtM_app, wtM, wtM, JM.wt]
      omega
theorem wordS_wt {s name : List UInt8} {j i1 : Nat} {v v' : JV} (hn : 1 ≤ name.length) (hv : v.wt ≤ 1) (h : wordS s j name v = .ok (v', i1)) : j + v'.wt ≤ i1 := by
  unfold wordS at h
  split at h
  · cases h; omega
  · cases h
theorem jv_wt (k : Int) (b : Bool) (n : Int) (s : List UInt8) (is : List JV) (ms : List JM) (a : Nat) : (jv k b n s is ms a).wt = 1 + s.length + wtL is + wtM ms := by rw [jv, JV.wt]
theorem valueF_wt {lim : Bool} {rec : Nat → Res JV} {s : List UInt8} (hp : ProgR s rec) (h : WtR s rec) : WtR s (valueF lim rec s) := by
  intro i v i1 hi hv
  have hl := skipSp_le hi
  have hg := skipSp_ge s i
  unfold valueF at hv
  dsimp only at hv
  split at hv
  · cases hv
  split at hv
  · have := wordS_wt (by decide) (by rw [jv_wt]; simp [wtL, wtM]) hv; omega
  split at hv
  · have := wordS_wt (by decide) (by rw [jv_wt]; simp [wtL, wtM]) hv; omega
  split at hv
  · have := wordS_wt (by decide) (by rw [jv_wt]; simp [wtL, wtM]) hv; omega
  split at hv
  · split at hv
    · rename_i h0
      have := strP_len h0
      cases hv
      rw [jv_wt]
      simp [wtL, wtM]
      omega
    · cases hv
  split at hv
  · split at hv
    · rename_i n hn
      cases hv
      have : (numT (s.drop (skipSp s i))) ≠ [] := fun e => by rw [e] at hn; cases hn
      have := List.length_pos_iff.2 this
      rw [jv_wt]
      simp [wtL, wtM]
      omega
    · cases hv
  split at hv
  · rename_i hb
    have hlt := byteAt_lt (by decide) hb
    split at hv
    · rename_i is i2 he
      cases hv
      have := elemS_wt (w := wtL) (arrStep_prog hp) (arrStep_wt h) hlt he
      rw [wtL] at this
      rw [jv_wt]
      simp [wtM]
      omega
    · cases hv
  split at hv
  · rename_i hb
    have hlt := byteAt_lt (by decide) hb
    split at hv
    · rename_i ms i2 he
      cases hv
      have := elemS_wt (w := wtM) (objStep_prog hp) (objStep_wt h) hlt he
      rw [wtM] at this
      rw [jv_wt]
      simp [wtL]
      omega
    · cases hv
  · cases hv
theorem valueS_wt (s : List UInt8) : ∀ k, WtR s (valueS k s)
  | 0 => valueF_wt (lim := true) (rec := fun _ => .error (0, 0)) (fun _ _ _ _ h => by cases h) (fun _ _ _ _ h => by cases h)
  | k + 1 => valueF_wt (lim := false) (valueS_prog s k) (valueS_wt s k)
theorem parseS_wt {s : List UInt8} {v : JV} (h : parseS s = .ok v) : v.wt ≤ s.length := by
  unfold parseS at h
  cases hr : valueS 100 s (if hasPre s [239, 187, 191] then 3 else 0) with
  | error x => rw [hr] at h; cases h
  | ok r =>
    obtain ⟨w, i⟩ := r
    rw [hr] at h
    have hi : (if hasPre s [239, 187, 191] then 3 else 0) ≤ s.length := by
      split
      · rename_i hb; exact hasPre_len hb
      · omega
    have hp := valueS_prog s 100 _ w i hi hr
    have hw := valueS_wt s 100 _ w i hi hr
    simp only at h
    split at h
    · cases h
    · cases h; omega

theorem law11Match_C {s : List UInt8} {σ : St} {Q : Out → St → Prop} (hsz : s.length ≤ 9223372036854775807) (h : Q (.ret (.bool true)) σ) : C Xc 3 [.str s] σ Q := by
  refine bodyW cf_law11Match (Eq.refl true) fun hw => ?_
  simp -implicitDefEqProofs only [vf_law11Match, List.append_assoc, getL, getL0, setL, setL0, List.set_cons_zero, List.set_cons_succ, wset, tailW, tailEnd, isLenV, isOneV, vop, vbin, vbinI, vun, ↓reduceIte, Nat.reduceEqDiff, Nat.reduceAdd, vcells, vcut, cutSK, cutVK, cutNK, fillV, spl, Nat.reduceLeDiff, V.isNil, bne_self_eq_false]
  refine chooseK_split (fun g1 => ?_) (fun g1 => ?_) <;> simp -implicitDefEqProofs only [g1, List.append_assoc, getL, getL0, setL, setL0, List.set_cons_zero, List.set_cons_succ, wset, tailW, tailEnd, isLenV, isOneV, vop, vbin, vbinI, vun, ↓reduceIte, Nat.reduceEqDiff, Nat.reduceAdd, vcells, vcut, cutSK, cutVK, cutNK, fillV, spl, Nat.reduceLeDiff, V.isNil, bne_self_eq_false]
  · refine alive_C ?_
    simp -implicitDefEqProofs only [List.append_assoc, getL, getL0, setL, setL0, List.set_cons_zero, List.set_cons_succ, wset, tailW, tailEnd, isLenV, isOneV, vop, vbin, vbinI, vun, ↓reduceIte, Nat.reduceEqDiff, Nat.reduceAdd, vcells, vcut, cutSK, cutVK, cutNK, fillV, spl, Nat.reduceLeDiff, V.isNil, bne_self_eq_false]
    exact .inl h
  have hl : s.length ≤ 3000 := by simp at g1; omega
  refine parse_C (by unfold big; omega) ?_
  cases hp : parseS s with
  | error x =>
    rw [parseV_error hp]
    simp -implicitDefEqProofs only [JV.enc, JV.len, List.append_assoc, getL, getL0, setL, setL0, List.set_cons_zero, List.set_cons_succ, wset, tailW, tailEnd, isLenV, isOneV, vop, vbin, vbinI, vun, ↓reduceIte, Nat.reduceEqDiff, Nat.reduceAdd, vcells, vcut, cutSK, cutVK, cutNK, fillV, spl, Nat.reduceLeDiff, V.isNil, bne_self_eq_false]
    refine r11Parse_C (by unfold big; omega) ?_
    rw [parseV_error hp]
    simp -implicitDefEqProofs only [JV.enc, JV.len, List.append_assoc, getL, getL0, setL, setL0, List.set_cons_zero, List.set_cons_succ, wset, tailW, tailEnd, isLenV, isOneV, vop, vbin, vbinI, vun, ↓reduceIte, Nat.reduceEqDiff, Nat.reduceAdd, vcells, vcut, cutSK, cutVK, cutNK, fillV, spl, Nat.reduceLeDiff, V.isNil, bne_self_eq_false]
    refine alive_C ?_
    simp -implicitDefEqProofs only [JV.enc, JV.len, take7, List.append_assoc, getL, getL0, setL, setL0, List.set_cons_zero, List.set_cons_succ, wset, tailW, tailEnd, isLenV, isOneV, vop, vbin, vbinI, vun, ↓reduceIte, Nat.reduceEqDiff, Nat.reduceAdd, vcells, vcut, cutSK, cutVK, cutNK, fillV, spl, Nat.reduceLeDiff, V.isNil, bne_self_eq_false]
    refine refEqual_C true _ jnull jnull (Nat.le_refl _) (by decide) _ _ ?_
    rw [eqJ_refl]
    simp -implicitDefEqProofs only [List.append_assoc, getL, getL0, setL, setL0, List.set_cons_zero, List.set_cons_succ, beq_self_eq_true, wset, tailW, tailEnd, isLenV, isOneV, vop, vbin, vbinI, vun, ↓reduceIte, Nat.reduceEqDiff, Nat.reduceAdd, vcells, vcut, cutSK, cutVK, cutNK, fillV, spl, Nat.reduceLeDiff, V.isNil, bne_self_eq_false]
    exact exitNew hw (by rfl) (by rfl) h
  | ok v =>
    rw [parseV_ok hp]
    have hvw := parseS_wt hp
    simp -implicitDefEqProofs only [JV.enc, JV.len, List.append_assoc, getL, getL0, setL, setL0, List.set_cons_zero, List.set_cons_succ, wset, tailW, tailEnd, isLenV, isOneV, vop, vbin, vbinI, vun, ↓reduceIte, Nat.reduceEqDiff, Nat.reduceAdd, vcells, vcut, cutSK, cutVK, cutNK, fillV, spl, Nat.reduceLeDiff, V.isNil, bne_self_eq_false]
    refine r11Parse_C (by unfold big; omega) ?_
    rw [parseV_ok hp]
    simp -implicitDefEqProofs only [JV.enc, JV.len, List.append_assoc, getL, getL0, setL, setL0, List.set_cons_zero, List.set_cons_succ, wset, tailW, tailEnd, isLenV, isOneV, vop, vbin, vbinI, vun, ↓reduceIte, Nat.reduceEqDiff, Nat.reduceAdd, vcells, vcut, cutSK, cutVK, cutNK, fillV, spl, Nat.reduceLeDiff, V.isNil, bne_self_eq_false]
    refine alive_C ?_
    simp -implicitDefEqProofs only [JV.enc, JV.len, take7, List.append_assoc, getL, getL0, setL, setL0, List.set_cons_zero, List.set_cons_succ, wset, tailW, tailEnd, isLenV, isOneV, vop, vbin, vbinI, vun, ↓reduceIte, Nat.reduceEqDiff, Nat.reduceAdd, vcells, vcut, cutSK, cutVK, cutNK, fillV, spl, Nat.reduceLeDiff, V.isNil, bne_self_eq_false]
    refine refEqual_C true _ v v (Nat.le_refl _) (by unfold big; omega) _ _ ?_
    rw [eqJ_refl]
    simp -implicitDefEqProofs only [List.append_assoc, getL, getL0, setL, setL0, List.set_cons_zero, List.set_cons_succ, beq_self_eq_true, wset, tailW, tailEnd, isLenV, isOneV, vop, vbin, vbinI, vun, ↓reduceIte, Nat.reduceEqDiff, Nat.reduceAdd, vcells, vcut, cutSK, cutVK, cutNK, fillV, spl, Nat.reduceLeDiff, V.isNil, bne_self_eq_false]
    exact exitNew hw (by rfl) (by rfl) h
end Go.Proofs.YtgdcdkgmeomhpaaGreatDoor

namespace Go.Proofs.YtgdcdkgmeomhpaaGreatDoor
open Go Go.Vs Go.RowKit Go.ChangeShapes

/-- How many cells a block has. -/
def prOf (w : World) (b : Nat) : Nat := match w.heap[b]? with
  | some (.cells c _ _) => c.size
  | _ => 0
/-- The memory at the start: nothing of it is the abstract store's. -/
def mem0 (G : List (Nat × List V)) (w : World) : Mem := ⟨w.heap.size, G, 0, fun _ => 0, 0, fun _ => 0, prOf w, fun _ => (0, 0, 0), [], fun _ => 0⟩
def st0 : St := ⟨[], [], [], [], []⟩

def GOk (w : World) (G : List (Nat × List V)) : Prop :=
  ∀ (g : Nat) (cs : List V), (g, cs) ∈ G → g < w.heap.size ∧ ∃ us, RVs (mem0 G w) w cs us ∧ w.rangeAt g 0 us ∧ us.length ≤ prOf w g ∧ ∀ u ∈ us, u.oneCell' = true

theorem rel0 {G : List (Nat × List V)} {w : World} (h : GOk w G) : Rel (mem0 G w) st0 w where
  n := rfl
  nm := rfl
  tl := rfl
  base := Nat.le_refl _
  past b hb := by show prOf w b = 0; rw [prOf, Array.getElem?_eq_none hb]
  glob := h
  obj o cs ho := by cases ho
  inj o o' ho := by cases ho
  map r es hr := by cases hr
  minj r r' hr := by cases hr
  tok t ht := by cases ht
  tinj t t' ht := by cases ht
  mo r o hr := by cases hr
  mt r t hr := by cases hr
  tys := rfl
  ty o e ho := by cases ho
  tts := rfl
  tt i e hi := by cases hi

/-- The law's call, out of its contract. -/
theorem law_calls {X : Ctx} {f : FuncId} {args : List V} {us : List Value} {W : World} (hC : C X f args st0 fun o _ => o = .ret (.bool true)) (hG : GOk W X.G) (hus : RVs (mem0 X.G W) W args us) :
    Calls X.P f us.toArray W fun e W' => e = .returned (.bool true) ∧ Below W.heap.size W W' := by
  refine (hC.2 (mem0 X.G W) W us rfl (rel0 hG) hus).mono fun e W' ⟨μ', σ', out, hq, hev, _, ho⟩ => ?_
  subst hq
  obtain ⟨u, hu, rfl⟩ := ho
  cases hu
  exact ⟨rfl, hev.os, hev.tape, hev.output, hev.size, hev.old⟩

section
variable {P : Program} {w : World} {G : List (Nat × List V)}

theorem var_block {n : String} {g : Nat} {cs : Array Value} (hg : P.globalNamed n = some g) (h : w.var? P n = some cs) : ∃ t fz, w.heap[g]? = some (.cells cs t fz) := by
  simp only [World.var?, hg, Option.bind_some] at h
  split at h
  · rename_i c t fz hh
    cases h
    exact ⟨t, fz, hh⟩
  · cases h

theorem gfact {n : String} {g : Nat} {cs : Array Value} {vs : List V} (hg : P.globalNamed n = some g) (h : w.var? P n = some cs) (hr : RVs (mem0 G w) w vs cs.toList) (h1 : ∀ u ∈ cs.toList, u.oneCell' = true) :
    g < w.heap.size ∧ ∃ us, RVs (mem0 G w) w vs us ∧ w.rangeAt g 0 us ∧ us.length ≤ prOf w g ∧ ∀ u ∈ us, u.oneCell' = true := by
  obtain ⟨t, fz, hb⟩ := var_block hg h
  refine ⟨(Array.getElem?_eq_some_iff.1 hb).1, cs.toList, hr, fun j v hv => ?_, ?_, h1⟩
  · rw [World.var?_cell hg h, Nat.zero_add]
    simpa using hv
  · rw [prOf, hb]; simp

theorem rvs8 (l : List Nat) : RVs (mem0 G w) w (cells8 l) (l.map fun (n : Nat) => Value.int .u8 (n : Int)) := by
  refine ⟨by simp [cells8], fun i hi => ?_⟩
  have hi' : i < l.length := by simpa [cells8] using hi
  have e1 : (cells8 l).getD i .und = .int .u8 (l[i] : Int) := by simp [cells8, List.getD_eq_getElem?_getD, List.getElem?_eq_getElem hi']
  have e2 : (l.map fun (n : Nat) => Value.int .u8 (n : Int)).getD i undef = .int .u8 (l[i] : Int) := by simp [List.getD_eq_getElem?_getD, List.getElem?_eq_getElem hi']
  rw [e1, e2]
  exact .int _ _

theorem gfact8 {n : String} {g : Nat} {cs : Array Value} {l : List Nat} (hg : P.globalNamed n = some g) (h : w.var? P n = some cs) (e : cs.toList = l.map fun (n : Nat) => Value.int .u8 (n : Int)) :
    g < w.heap.size ∧ ∃ us, RVs (mem0 G w) w (cells8 l) us ∧ w.rangeAt g 0 us ∧ us.length ≤ prOf w g ∧ ∀ u ∈ us, u.oneCell' = true :=
  gfact hg h (by rw [e]; exact rvs8 l) (by rw [e]; intro u hu; obtain ⟨n, _, rfl⟩ := List.mem_map.1 hu; rfl)

theorem of_chunks {α : Type} (k : Nat) : ∀ (L : List (List α)) (cs : List α), cs.length = L.length * k → (∀ i, i < L.length → (cs.drop (i * k)).take k = L.getD i []) → cs = L.flatten
  | [], cs, hl, _ => by simpa using hl
  | c :: r, cs, hl, h => by
    have h0 := h 0 (by simp)
    simp only [Nat.zero_mul, List.drop_zero, List.getD_cons_zero] at h0
    have hr := of_chunks k r (cs.drop k) (by simp only [List.length_drop, hl, List.length_cons, Nat.succ_mul]; omega) fun i hi => by
      have := h (i + 1) (by simpa using hi)
      rw [List.getD_cons_succ, Nat.succ_mul] at this
      rw [List.drop_drop, Nat.add_comm]
      exact this
    rw [List.flatten_cons, ← hr, ← h0, List.take_append_drop]

/-- An array of arrays or of structs of bytes. -/
theorem chunks_of {fuel : Nat} {t e : TypeId} {n k : Nat} {cs : List Value} {L : List (List Nat)} {p : List MemPlace} (ht : P.underlying t = some (.array n e)) (hce : P.cellsOf e = k) (hL : L.length = n) (hct : P.cellsOf t = n * k)
    (he : ∀ (fuel : Nat) (cs : List Value) (l : List Nat) (q : List MemPlace), DataW.trod (fun _ => ()) P w 0 (fun _ => true) false fuel e cs = some (.agg ((l.map fun (x : Nat) => (x : Int)).map fun z => .lit (.int .u8 z)), q) → cs = l.map fun (x : Nat) => Value.int .u8 (x : Int))
    (h : DataW.trod (fun _ => ()) P w 0 (fun _ => true) false fuel t cs = some (.agg (L.map fun l => .agg ((l.map fun (x : Nat) => (x : Int)).map fun z => .lit (.int .u8 z))), p)) :
    cs = L.flatten.map fun (x : Nat) => Value.int .u8 (x : Int) := by
  have hlen : cs.length = n * k := by
    cases fuel with
    | zero => simp [DataW.trod] at h
    | succ fuel =>
      simp only [DataW.trod, ht] at h
      split at h
      · rename_i hl; rw [hl, hct]
      · cases h
  rw [List.map_flatten]
  refine of_chunks k _ cs (by simp [hL, hlen]) fun i hi => ?_
  have hi' : i < n := by simpa [hL] using hi
  obtain ⟨fuel', d, q, hdi, hd⟩ := Lib.array_elem ht h i hi'
  have hiL : i < L.length := by omega
  simp only [List.getElem?_map, List.getElem?_eq_getElem hiL, Option.map_some, Option.some.injEq] at hdi
  subst hdi
  rw [hce] at hd
  rw [he _ _ _ _ hd]
  simp [List.getD_eq_getElem?_getD, List.getElem?_eq_getElem hiL]

/-- An error that is listed. -/
theorem gfact_err {n : String} {g : Nat} {t : TypeId} {cs : Array Value} {a : Addr} {s : ByteArray} (hg : P.globalNamed n = some g) (h : w.var? P n = some cs) (e : cs.toList = [.iface t (.pointer (some a))]) (hc : w.cell? a = some (.string s)) :
    g < w.heap.size ∧ ∃ us, RVs (mem0 G w) w [.iface t (.eptr [])] us ∧ w.rangeAt g 0 us ∧ us.length ≤ prOf w g ∧ ∀ u ∈ us, u.oneCell' = true := by
  have hs := World.cell?_spot hc
  obtain ⟨b, off, sp⟩ := a
  simp only at hs
  subst hs
  refine gfact hg h ?_ (by rw [e]; intro u hu; rw [List.mem_singleton.1 hu]; rfl)
  rw [e]
  refine ⟨rfl, fun i hi => ?_⟩
  simp only [List.length_cons, List.length_nil] at hi
  obtain rfl : i = 0 := by omega
  simp only [List.getD_cons_zero]
  refine .iface _ _ _ (.eptr [] [] b off rfl (fun j v hv => by simp at hv) ?_ (fun u hu => by cases hu) fun i hi => by cases hi)
  show off + 0 ≤ prOf w b
  simp only [World.cell?] at hc
  split at hc
  · rename_i c t' fz hb
    simp only [Option.isSome_none, Bool.false_eq_true, if_false] at hc
    have := (Array.getElem?_eq_some_iff.1 hc).1
    have e : prOf w b = c.size := by rw [prOf, hb]
    omega
  · cases hc
end
end Go.Proofs.YtgdcdkgmeomhpaaGreatDoor

namespace Go.Proofs.YtgdcdkgmeomhpaaGreatDoor
open Go Go.Vs Go.RowKit Go.ChangeShapes
set_option maxRecDepth 100000

noncomputable abbrev PP : Program := Go.Proofs.Tryz.prog

theorem p_letters : PP.globalNamed "feedvault/jsonstring.letters" = some 0 := by kernel_rfl
theorem p_first : PP.globalNamed "unicode/utf8.first" = some 4 := by kernel_rfl
theorem p_accept : PP.globalNamed "unicode/utf8.acceptRanges" = some 5 := by kernel_rfl
theorem p_syntax : PP.globalNamed "strconv.ErrSyntax" = some 2 := by kernel_rfl
theorem p_range : PP.globalNamed "strconv.ErrRange" = some 3 := by kernel_rfl
theorem y_letters : (PP.globals[0]?).map (·.type) = some 108 := by kernel_rfl
theorem y_first : (PP.globals[4]?).map (·.type) = some 129 := by kernel_rfl
theorem y_accept : (PP.globals[5]?).map (·.type) = some 132 := by kernel_rfl
theorem y_syntax : (PP.globals[2]?).map (·.type) = some 77 := by kernel_rfl
theorem y_range : (PP.globals[3]?).map (·.type) = some 77 := by kernel_rfl
theorem u_u8 : PP.underlying 5 = some (.int .u8) := by kernel_rfl
theorem u_letters : PP.underlying 108 = some (.array 5 107) := by kernel_rfl
theorem u_pair : PP.underlying 107 = some (.array 2 5) := by kernel_rfl
theorem u_first : PP.underlying 129 = some (.array 256 5) := by kernel_rfl
theorem u_accepts : PP.underlying 132 = some (.array 16 131) := by kernel_rfl
theorem c_u8 : PP.cellsOf 5 = 1 := by kernel_rfl
theorem c_pair : PP.cellsOf 107 = 2 := by kernel_rfl
theorem c_letters : PP.cellsOf 108 = 10 := by kernel_rfl
theorem c_first : PP.cellsOf 129 = 256 := by kernel_rfl
theorem c_accept : PP.cellsOf 131 = 2 := by kernel_rfl
theorem c_accepts : PP.cellsOf 132 = 32 := by kernel_rfl
theorem c_errS : PP.cellsOf 138 = 1 := by kernel_rfl
theorem c_str : PP.cellsOf 9 = 1 := by kernel_rfl
theorem u_str : PP.underlying 9 = some .string := by kernel_rfl
theorem u_bool : PP.underlying 4 = some .bool := by kernel_rfl
theorem u_bytes : PP.underlying 89 = some (.slice 5) := by kernel_rfl
theorem u_pErr : PP.underlying 136 = some (.pointer 138) := by kernel_rfl
theorem star : "*" ++ "errors.errorString" = "*errors.errorString" := by decide
theorem rowErr (u : TypeId) (h : PP.typeName? 3 u = some "*errors.errorString") : u = 136 :=
  typeName_ptr_named (nm := "errors.errorString") (by rw [star]; kernel_rfl) (by kernel_rfl) (by decide) u (by rw [star]; exact h)

def pairs : List (List Nat) := [[98, 8], [102, 12], [110, 10], [114, 13], [116, 9]]
def ranges : List (List Nat) := [[128, 191], [160, 191], [128, 159], [144, 191], [128, 143], [0, 0], [0, 0], [0, 0], [0, 0], [0, 0], [0, 0], [0, 0], [0, 0], [0, 0], [0, 0], [0, 0]]
theorem pairs_flat : pairs.flatten = lettersN := by rfl
theorem ranges_flat : ranges.flatten = acceptN := by rfl

section
variable {w : World}
theorem pair_cells (fuel : Nat) (cs : List Value) (l : List Nat) (q : List MemPlace) (h : DataW.trod (fun _ => ()) PP w 0 (fun _ => true) false fuel 107 cs = some (.agg ((l.map fun (x : Nat) => (x : Int)).map fun z => .lit (.int .u8 z)), q)) : cs = l.map fun (x : Nat) => Value.int .u8 (x : Int) := by
  rw [Lib.cells_of_tab u_pair u_u8 c_u8 c_pair h, List.map_map]
  rfl
theorem accept_cells (fuel : Nat) (cs : List Value) (l : List Nat) (q : List MemPlace) (h : DataW.trod (fun _ => ()) PP w 0 (fun _ => true) false fuel 131 cs = some (.agg ((l.map fun (x : Nat) => (x : Int)).map fun z => .lit (.int .u8 z)), q)) : cs = l.map fun (x : Nat) => Value.int .u8 (x : Int) := by
  obtain ⟨fs, hu, hf, hs⟩ : ∃ fs, PP.underlying 131 = some (.struct fs) ∧ (∀ (i : Nat) (f : Field), fs[i]? = some f → PP.underlying f.type = some (.int .u8) ∧ f.offset = i ∧ PP.cellsOf f.type = 1) ∧ PP.cellsOf 131 = fs.size :=
    ⟨#[⟨"lo", 5, 0, false, "", "unicode/utf8", 0⟩, ⟨"hi", 5, 1, false, "", "unicode/utf8", 1⟩], by kernel_rfl, fun i f h => by
      match i, h with
      | 0, h => simp at h; subst h; exact ⟨u_u8, rfl, c_u8⟩
      | 1, h => simp at h; subst h; exact ⟨u_u8, rfl, c_u8⟩
      | i + 2, h => simp at h, c_accept⟩
  rw [Lib.ints_of_struct hu hf hs h, List.map_map]
  rfl

theorem g_letters_ok {G : List (Nat × List V)} (h : Lib.VarReads PP w "feedvault/jsonstring.letters" Rows.laid_feedvault_jsonstring_letters) :
    0 < w.heap.size ∧ ∃ us, RVs (mem0 G w) w (cells8 lettersN) us ∧ w.rangeAt 0 0 us ∧ us.length ≤ prOf w 0 ∧ ∀ u ∈ us, u.oneCell' = true := by
  obtain ⟨g, t, cs, fuel, p, hg, ht, hv, hd⟩ := h
  obtain rfl := Option.some.inj (p_letters.symm.trans hg)
  obtain rfl := Option.some.inj (y_letters.symm.trans ht)
  have hd' : DataW.trod (fun _ => ()) PP w 0 (fun _ => true) false fuel 108 cs.toList = some (.agg (pairs.map fun l => .agg ((l.map fun (x : Nat) => (x : Int)).map fun z => .lit (.int .u8 z))), p) := hd
  exact gfact8 hg hv (by rw [← pairs_flat]; exact chunks_of u_letters c_pair rfl c_letters pair_cells hd')
theorem g_accept_ok {G : List (Nat × List V)} (h : Lib.VarReads PP w "unicode/utf8.acceptRanges" Rows.laid_unicode_utf8_acceptRanges) :
    5 < w.heap.size ∧ ∃ us, RVs (mem0 G w) w (cells8 acceptN) us ∧ w.rangeAt 5 0 us ∧ us.length ≤ prOf w 5 ∧ ∀ u ∈ us, u.oneCell' = true := by
  obtain ⟨g, t, cs, fuel, p, hg, ht, hv, hd⟩ := h
  obtain rfl := Option.some.inj (p_accept.symm.trans hg)
  obtain rfl := Option.some.inj (y_accept.symm.trans ht)
  have hd' : DataW.trod (fun _ => ()) PP w 0 (fun _ => true) false fuel 132 cs.toList = some (.agg (ranges.map fun l => .agg ((l.map fun (x : Nat) => (x : Int)).map fun z => .lit (.int .u8 z))), p) := hd
  exact gfact8 hg hv (by rw [← ranges_flat]; exact chunks_of u_accepts c_accept rfl c_accepts accept_cells hd')
theorem first_data : (Rows.laid_unicode_utf8_first : DataW Unit) = Lib.tabData .u8 (firstN.map fun (x : Nat) => (x : Int)) := by kernel_rfl
theorem g_first_ok {G : List (Nat × List V)} (h : Lib.VarReads PP w "unicode/utf8.first" Rows.laid_unicode_utf8_first) :
    4 < w.heap.size ∧ ∃ us, RVs (mem0 G w) w (cells8 firstN) us ∧ w.rangeAt 4 0 us ∧ us.length ≤ prOf w 4 ∧ ∀ u ∈ us, u.oneCell' = true := by
  rw [first_data] at h
  obtain ⟨g, t, cs, fuel, p, hg, ht, hv, hd⟩ := h
  obtain rfl := Option.some.inj (p_first.symm.trans hg)
  obtain rfl := Option.some.inj (y_first.symm.trans ht)
  exact gfact8 hg hv (by rw [Lib.cells_of_tab u_first u_u8 c_u8 c_first hd, List.map_map]; rfl)

theorem g_err_ok {G : List (Nat × List V)} {n : String} {g : Nat} {text : List UInt8} (hn : PP.globalNamed n = some g) (hy : (PP.globals[g]?).map (·.type) = some 77)
    (h : Lib.VarReads PP w n (.iface "*errors.errorString" (.ptr (.agg [.lit (.string text)])))) (hok : ∀ cs : Array Value, w.var? PP n = some cs → ∀ u v, cs.toList = [.iface u v] → Value.okWide PP w .any 0 u v) :
    g < w.heap.size ∧ ∃ us, RVs (mem0 G w) w [.iface 136 (.eptr [])] us ∧ w.rangeAt g 0 us ∧ us.length ≤ prOf w g ∧ ∀ u ∈ us, u.oneCell' = true := by
  obtain ⟨g', t, cs, fuel, p, hg, ht, hv, hd⟩ := h
  obtain rfl := Option.some.inj (hn.symm.trans hg)
  obtain rfl := Option.some.inj (hy.symm.trans ht)
  obtain ⟨ms, hms⟩ : ∃ ms, PP.underlying 77 = some (.interface ms) := by
    have : (match PP.underlying 77 with | some (.interface _) => true | _ => false) = true := by kernel_rfl
    split at this
    · rename_i ms hms; exact ⟨ms, hms⟩
    · cases this
  obtain ⟨f, hft, h1, h2⟩ : ∃ f, PP.underlying 138 = some (.struct #[f]) ∧ f.type = 9 ∧ f.offset = 0 := ⟨⟨"s", 9, 0, false, "", "errors", 0⟩, by kernel_rfl, rfl, rfl⟩
  obtain ⟨a, s, hcs, hc, _⟩ := errorString_of_trod hms rowErr u_pErr hft h1 h2 u_str c_errS c_str hd fun u v e => hok cs hv u v e
  exact gfact_err hg hv hcs hc

theorem laid_place {P : Program} {w : World} : ∀ {l : List (String × DataW Unit)} {ps : List MemPlace} {n : String} {d : DataW Unit} {g : Nat} {cs : Array Value} {i : Nat}, DataW.LaidVars P w l ps → (n, d) ∈ l → P.globalNamed n = some g → w.var? P n = some cs → i < cs.size → MemPlace.cell g i ∈ ps
  | [], _, _, _, _, _, _, _, hm, _, _, _ => by cases hm
  | (n', d') :: r, ps, n, d, g, cs, i, h, hm, hg, hv, hi => by
    obtain ⟨g', t', cs', fuel, p, q, h1, h2, h3, h4, h5, rfl⟩ := h
    rcases List.mem_cons.1 hm with e | e
    · cases e
      obtain rfl := Option.some.inj (hg.symm.trans h1)
      obtain rfl := Option.some.inj (hv.symm.trans h3)
      exact List.mem_append_left _ (List.mem_append_left _ (List.mem_map.2 ⟨i, List.mem_range.2 hi, by simp⟩))
    · exact List.mem_append_right _ (laid_place h5 e hg hv hi)

/-- All that is listed is as the value semantics wants it. -/
theorem gok_of_laid {l : List (String × DataW Unit)} (h : laidMet PP l w) (h1 : ("feedvault/jsonstring.letters", Rows.laid_feedvault_jsonstring_letters) ∈ l) (h2 : ("unicode/utf8.first", Rows.laid_unicode_utf8_first) ∈ l)
    (h3 : ("unicode/utf8.acceptRanges", Rows.laid_unicode_utf8_acceptRanges) ∈ l) (h4 : ("strconv.ErrSyntax", Rows.laid_strconv_ErrSyntax) ∈ l) (h5 : ("strconv.ErrRange", Rows.laid_strconv_ErrRange) ∈ l) : GOk w Gs := by
  have hok : ∀ n d g, (n, d) ∈ l → PP.globalNamed n = some g → ∀ cs : Array Value, w.var? PP n = some cs → ∀ u v, cs.toList = [.iface u v] → Value.okWide PP w .any 0 u v := by
    obtain ⟨ps, hv, _, hr⟩ := h
    intro n d g hm hg cs hcs u v e
    have hp := laid_place hv hm hg hcs (i := 0) (by rw [← Array.length_toList, e]; simp)
    refine (hr g 0 hp).2 u v ?_
    rw [World.var?_cell hg hcs, ← Array.getElem?_toList, e]
    rfl
  intro g cs hg
  simp only [Gs, List.mem_cons, Prod.mk.injEq, List.not_mem_nil, or_false] at hg
  rcases hg with ⟨rfl, rfl⟩ | ⟨rfl, rfl⟩ | ⟨rfl, rfl⟩ | ⟨rfl, rfl⟩ | ⟨rfl, rfl⟩
  · exact g_letters_ok (Lib.laidMet.reads h h1)
  · exact g_first_ok (Lib.laidMet.reads h h2)
  · exact g_accept_ok (Lib.laidMet.reads h h3)
  · exact g_err_ok p_syntax y_syntax (Lib.laidMet.reads h h4) (hok _ _ _ h4 p_syntax)
  · exact g_err_ok p_range y_range (Lib.laidMet.reads h h5) (hok _ _ _ h5 p_range)
end
end Go.Proofs.YtgdcdkgmeomhpaaGreatDoor

namespace Go.Proofs.YtgdcdkgmeomhpaaGreatDoor
open Go Go.Vs Go.RowKit Go.ChangeShapes
set_option maxRecDepth 100000
section
variable {H : Type} {enc : TypeId × Value → H} {P : Program} {w : World} {G : List (Nat × List V)} {sp : Nat → Bool} {held : Bool}

theorem add_add (a : Addr) (m n : Nat) : (a.add m).add n = a.add (m + n) := by
  unfold Addr.add
  by_cases hm : m = 0
  · subst hm; simp
  · by_cases hn : n = 0
    · subst hn; simp [hm]
    · simp [hm, hn, Nat.add_assoc]

/-- Cells that read as an element stand for an abstract value of the kind R. -/
def ElemOk (enc : TypeId × Value → H) (P : Program) (w : World) (G : List (Nat × List V)) (sp : Nat → Bool) (held : Bool) (n : Nat) (e : TypeId) (sz : Nat) (R : V → Prop) : Prop :=
  ∀ (cs : List Value) (x : DataW H × List MemPlace), cs.length = sz → DataW.trod enc P w 0 sp held n e cs = some x → ∃ v, R v ∧ v.cells.length = sz ∧ RVs (mem0 G w) w v.cells cs ∧ ∀ u ∈ cs, u.oneCell' = true

theorem rv_slice {fuel : Nat} {t e : TypeId} {sz : Nat} {R : V → Prop} {cs : List Value} {x : DataW H × List MemPlace} (ht : P.underlying t = some (.slice e)) (hsz : P.cellsOf e = sz) (h0 : 0 < sz)
    (hel : ∀ n, n < fuel → ElemOk enc P w G sp held n e sz R) (h : DataW.trod enc P w 0 sp held fuel t cs = some x) :
    ∃ nn xs u, cs = [u] ∧ (∀ v ∈ xs, R v) ∧ RV (mem0 G w) w (.slc nn xs .no) u ∧ u.oneCell' = true ∧ (nn = false → xs = []) ∧ xs.length ≤ maxLen := by
  rcases DataW.trod_slice ht h with ⟨rfl, _⟩ | ⟨a, len, cap, elems, rest, n, rfl, rfl, _, _, hlc, hcm, hlen, hat, _, _⟩
  · exact ⟨false, [], _, rfl, fun v hv => (by cases hv), .nils, rfl, fun _ => rfl, Nat.zero_le _⟩
  rw [hsz] at hat
  have each : ∀ i, i < len → ∃ ci x, w.cells? 0 (a.add (i * sz)) sz = some ci ∧ DataW.trod enc P w 0 sp held n e ci = some x := fun i hi => by
    have h1 := hat i hi
    rw [List.getElem?_eq_getElem (by omega), Option.bind_eq_some_iff] at h1
    obtain ⟨ci, h2, h3⟩ := h1
    exact ⟨ci, _, h2, h3⟩
  have build : ∀ m, m ≤ len → ∃ (xs : List V) (us : List Value), xs.length = m ∧ us.length = m * sz ∧ (∀ v ∈ xs, R v ∧ v.cells.length = sz) ∧ (∀ j u, us[j]? = some u → w.cell? (a.add j) = some u) ∧ (∀ u ∈ us, u.oneCell' = true) ∧
      ∀ i, i < m → ∀ j, j < sz → RV (mem0 G w) w ((xs.getD i .und).cells.getD j .und) (us.getD (i * sz + j) undef) := by
    intro m
    induction m with
    | zero => exact fun _ => ⟨[], [], rfl, by simp, fun v hv => (by cases hv), fun j u hj => (by simp at hj), fun u hu => (by cases hu), fun i hi => by omega⟩
    | succ m ih =>
      intro hm
      obtain ⟨xs, us, l1, l2, hR, hc, h1, hrv⟩ := ih (by omega)
      obtain ⟨ci, y, hci, hy⟩ := each m (by omega)
      obtain ⟨_, l3, hcc⟩ := World.cells?_some hci
      obtain ⟨v, hv, lv, ⟨lr, hr⟩, hone⟩ := hel n (by omega) ci y l3 hy
      refine ⟨xs ++ [v], us ++ ci, by simp [l1], by simp [l2, l3, Nat.succ_mul], ?_, ?_, ?_, ?_⟩
      · intro z hz
        rcases List.mem_append.1 hz with hz | hz
        · exact hR z hz
        · rw [List.mem_singleton.1 hz]; exact ⟨hv, lv⟩
      · intro j u hj
        by_cases hjl : j < us.length
        · rw [List.getElem?_append_left hjl] at hj; exact hc j u hj
        · rw [List.getElem?_append_right (by omega)] at hj
          have hlt := (List.getElem?_eq_some_iff.1 hj).1
          have := hcc (j - us.length) (by omega)
          rw [add_add, l2, show m * sz + (j - m * sz) = j by omega] at this
          rw [this, ← hj, l2]
      · intro u hu
        rcases List.mem_append.1 hu with hu | hu
        · exact h1 u hu
        · exact hone u hu
      · intro i hi j hj
        by_cases him : i < m
        · have hlt : i * sz + j < us.length := by
            have := Nat.mul_le_mul_right sz (show i + 1 ≤ m by omega)
            rw [Nat.succ_mul] at this
            omega
          have e1 : (xs ++ [v]).getD i .und = xs.getD i .und := by simp only [List.getD_eq_getElem?_getD]; rw [List.getElem?_append_left (by omega)]
          have e2 : (us ++ ci).getD (i * sz + j) undef = us.getD (i * sz + j) undef := by simp only [List.getD_eq_getElem?_getD]; rw [List.getElem?_append_left hlt]
          rw [e1, e2]
          exact hrv i him j hj
        · obtain rfl : i = m := by omega
          have e1 : (xs ++ [v]).getD i .und = v := by simp [List.getD_eq_getElem?_getD, l1]
          have e2 : (us ++ ci).getD (i * sz + j) undef = ci.getD j undef := by
            simp only [List.getD_eq_getElem?_getD]
            rw [List.getElem?_append_right (by omega), l2, show i * sz + j - i * sz = j by omega]
          rw [e1, e2]
          exact hr j (by omega)
  obtain ⟨xs, us, l1, l2, hR, hc, h1, hrv⟩ := build len (Nat.le_refl _)
  refine ⟨true, xs, _, rfl, fun v hv => (hR v hv).1, ?_, rfl, fun h => (by cases h), by omega⟩
  by_cases hl0 : len = 0
  · subst hl0
    obtain rfl : xs = [] := List.length_eq_zero_iff.1 l1
    exact .slc0 a cap
  · have hpos : 0 < len * sz := Nat.mul_pos (by omega) h0
    obtain ⟨u0, hu0⟩ : ∃ u, us[0]? = some u := ⟨us[0]'(by omega), List.getElem?_eq_getElem (by omega)⟩
    have hs := World.cell?_spot (hc 0 u0 hu0)
    obtain ⟨b, off, spt⟩ := a
    simp only [Addr.add, if_true] at hs
    subst hs
    obtain ⟨ul, hul⟩ : ∃ u, us[len * sz - 1]? = some u := ⟨us[len * sz - 1]'(by omega), List.getElem?_eq_getElem (by omega)⟩
    have hcl := hc _ ul hul
    rw [Addr.add_mid] at hcl
    have hpr : off + us.length ≤ prOf w b := by
      simp only [World.cell?] at hcl
      split at hcl
      · rename_i c t' fz hb
        simp only [Option.isSome_none, Bool.false_eq_true, if_false] at hcl
        have := (Array.getElem?_eq_some_iff.1 hcl).1
        have e : prOf w b = c.size := by rw [prOf, hb]
        omega
      · cases hcl
    rw [← l1]
    refine .slc xs .no b off cap sz us (fun v hv => (hR v hv).2) (by rw [l2, l1]) (fun j u hj => by have := hc j u hj; rwa [Addr.add_mid] at this) hpr h1 (fun i hi j hj => hrv i (by omega) j hj) trivial (by omega)
end

section
variable {H : Type} {enc : TypeId × Value → H} {w : World} {G : List (Nat × List V)} {sp : Nat → Bool} {held : Bool}

theorem elem_u8 (n : Nat) : ElemOk enc PP w G sp held n 5 1 (fun v => ∃ c : UInt8, v = .int .u8 (c.toNat : Int)) := by
  intro cs x _ h
  obtain ⟨z, rfl, _, hw⟩ := DataW.trod_int u_u8 h
  have hz : 0 ≤ z ∧ z ≤ 255 := by simpa [Lit.wf, IntKind.min, IntKind.max, IntKind.signed, IntKind.bits] using hw
  refine ⟨.int .u8 z, ⟨UInt8.ofNat z.toNat, ?_⟩, rfl, ⟨rfl, fun i hi => ?_⟩, fun u hu => by rw [List.mem_singleton.1 hu]; rfl⟩
  · have : (UInt8.ofNat z.toNat).toNat = z.toNat := by simp; omega
    rw [this]
    congr 1
    omega
  · simp only [V.cells, List.length_cons, List.length_nil] at hi
    obtain rfl : i = 0 := by omega
    exact .int _ _
theorem bytes_list : ∀ {xs : List V}, (∀ v ∈ xs, ∃ c : UInt8, v = .int .u8 (c.toNat : Int)) → ∃ ds, xs = bytesV ds
  | [], _ => ⟨[], rfl⟩
  | v :: r, h => by
    obtain ⟨c, rfl⟩ := h v (by simp)
    obtain ⟨ds, rfl⟩ := bytes_list (xs := r) fun v hv => h v (by simp [hv])
    exact ⟨c :: ds, rfl⟩

theorem rv_bytes {b0 : Nat} {v : Value} {d : DataW H} {ps : List MemPlace} (hval : Value.okWide PP w .any b0 89 v) (hd : DataW.Trod enc PP w 0 sp held 89 v d ps) : ∃ nn ds, RV (mem0 G w) w (.slc nn (bytesV ds) .no) v := by
  obtain ⟨fuel, hf⟩ := hd
  obtain ⟨nn, xs, u, hu, hR, hrv, _⟩ := rv_slice (G := G) u_bytes c_u8 (by omega) (fun n _ => elem_u8 n) hf
  obtain ⟨ds, rfl⟩ := bytes_list hR
  obtain ⟨a, len, cap, rfl⟩ := WideShapes.okWide_slice u_bytes hval
  have : u = .slice a len cap := by simpa [Value.cells] using hu.symm
  exact ⟨nn, ds, this ▸ hrv⟩
end
end Go.Proofs.YtgdcdkgmeomhpaaGreatDoor

namespace Go.Proofs.YtgdcdkgmeomhpaaGreatDoor
open Go Go.Vs Go.RowKit Go.ChangeShapes
set_option maxRecDepth 100000

theorem own : ownKnob PP.godebug = none := by kernel_rfl
theorem laidOutP : laidOutB PP = true := by kernel_rfl

theorem trodAll_stays {H : Type} {enc : TypeId × Value → H} {P : Program} (hl : laidOutB P = true) {W W' : World} (hb : Below W.heap.size W W') :
    ∀ {ts : List TypeId} {vs : List Value} {ds : List (DataW H)} {ps : List MemPlace}, (ts.all fun t => P.readableRec t && decide (t < P.types.size)) = true → (∀ x ∈ ps, x.block < W.heap.size) → DataW.TrodAll enc P W 0 (fun _ => true) true ts vs ds ps →
      DataW.TrodAll enc P W' 0 (fun b => decide (b < W.heap.size)) true ts vs ds ps
  | [], [], [], _, _, _, h => h
  | t :: ts, v :: vs, d :: ds, ps, ht, hp, h => by
    obtain ⟨p, q, h1, h2, rfl⟩ := h
    simp only [List.all_cons, Bool.and_eq_true, decide_eq_true_eq] at ht
    exact ⟨p, q, Below.trod hl ht.1.1 ht.1.2 h1 hb (fun x hx => hp x (List.mem_append_left _ hx)), trodAll_stays hl hb (by simpa using ht.2) (fun x hx => hp x (List.mem_append_right _ hx)) h2, rfl⟩
  | [], [], _ :: _, _, _, _, h => h.elim
  | [], _ :: _, _, _, _, _, h => h.elim
  | _ :: _, [], _, _, _, _, h => h.elim
  | _ :: _, _ :: _, [], _, _, _, h => h.elim

/-- What a law leaves that returns true and turns nothing that was there. -/
theorem law_post {H : Type} {enc : TypeId × Value → H} {fn : Func} {s : ChangeSpec} {W W' : World} {args : Array Value} {ds gs : List (DataW H)} {before : List MemPlace} (hv : s.vars = []) (hr : fn.resultTypes = #[4])
    (hts : (fn.params.toList.all fun t => PP.readableRec t && decide (t < PP.types.size)) = true) (hs : gs = [] → s.fn H (ds ++ gs) = { results := [.lit (.bool true)], args := ds })
    (hw : DataW.Whole enc PP fn.params.toList s.vars false W args.toList ds gs before) (hb : Below W.heap.size W W') : s.post enc PP fn false true false false W args (.bool true) W' := by
  have hW := hw
  obtain ⟨p, q, hA, hV, rfl, _, _⟩ := hw
  rw [hv] at hV
  obtain ⟨rfl, rfl⟩ := trodVars_none hV
  have hlt : ∀ x ∈ p, x.block < W.heap.size := fun x hx => hW.lt x (List.mem_append_left _ hx)
  refine ⟨ds, [], _, [], p, [], hW, ?_, ?_, ?_, hb.frame _, fun h => by cases h⟩
  · rw [hs rfl, hr]
    exact trodAll_mk1 (shut_bool u_bool true)
  · rw [hs rfl]
    exact trodAll_stays laidOutP hb hts hlt hA
  · rw [hs rfl, hv]
    rfl

/-- The numbers of a datum. -/
def flatV : Nat → DataW Unit → List Value
  | 0, _ => []
  | _ + 1, .lit (.int i n) => [.int i n]
  | _ + 1, .lit (.string s) => [.string ⟨s.toArray⟩]
  | _ + 1, .lit (.bool b) => [.bool b]
  | k + 1, .agg ps => ps.flatMap (flatV k)
  | _ + 1, _ => []
def layG (g : Nat) (cs : List Value) (h : Array Obj) : Array Obj := h.modify g fun
  | .cells _ t fz => .cells cs.toArray t fz
  | o => o
abbrev errS0 : ByteArray := { data := #[118, 97, 108, 117, 101, 32, 111, 117, 116, 32, 111, 102, 32, 114, 97, 110, 103, 101] }
abbrev errS1 : ByteArray := { data := #[105, 110, 118, 97, 108, 105, 100, 32, 115, 121, 110, 116, 97, 120] }
noncomputable def low : Nat := (World.holding PP default ⟨#[], #[], []⟩).heap.size
/-- A world in which the listed variables hold what is listed. -/
noncomputable def laidWorld (os : Os) : World :=
  let w0 := World.holding PP os ⟨#[.cells #[.string errS0] 138, .cells #[.string errS1] 138], #[], []⟩
  { w0 with heap := layG 4 (flatV 4 Rows.laid_unicode_utf8_first) (layG 0 (flatV 4 Rows.laid_feedvault_jsonstring_letters) (layG 2 [.iface 136 (.pointer (some ⟨low + 1, 0, none⟩))] (layG 3 [.iface 136 (.pointer (some ⟨low + 0, 0, none⟩))] (layG 5 (flatV 4 Rows.laid_unicode_utf8_acceptRanges) (layG 6 (flatV 4 Rows.laid_internal_strconv_uint64pow10) (layG 8 (flatV 4 Rows.laid_math_bits_deBruijn64tab) (layG 7 (flatV 4 Rows.laid_math_bits_deBruijn32tab) (w0.heap)))))))) }
theorem laidWorld_met (os : Os) (args : Array Value) : laidMet PP Rows.jsonvalueMatchesReferenceRow.laid ((laidWorld os).forCall (fun _ _ => 0) ⟨#[], args, []⟩).memory :=
  laidMet_of_run' 8 (by kernel_rfl) (by kernel_rfl)
end Go.Proofs.YtgdcdkgmeomhpaaGreatDoor

namespace Go.Proofs.YtgdcdkgmeomhpaaGreatDoor
open Go Go.Vs Go.RowKit Go.ChangeShapes
set_option maxRecDepth 100000

noncomputable def fieldsOf (t : TypeId) : Array Field := match PP.underlying t with
  | some (.struct fs) => fs
  | _ => #[]
theorem u_value : PP.underlying 26 = some (.struct (fieldsOf 26)) := by kernel_rfl
theorem f_value : (fieldsOf 26).toList.map (fun f => (f.type, f.offset)) = [(3, 0), (4, 1), (2, 2), (9, 3), (23, 4), (24, 5), (3, 6)] := by kernel_rfl
theorem u_member : PP.underlying 41 = some (.struct (fieldsOf 41)) := by kernel_rfl
theorem f_member : (fieldsOf 41).toList.map (fun f => (f.type, f.offset)) = [(9, 0), (26, 1), (3, 8)] := by kernel_rfl
theorem u_int : PP.underlying 3 = some (.int .i64) := by kernel_rfl
theorem u_i64 : PP.underlying 2 = some (.int .i64) := by kernel_rfl
theorem u_vals : PP.underlying 23 = some (.slice 26) := by kernel_rfl
theorem u_mems : PP.underlying 24 = some (.slice 41) := by kernel_rfl
theorem c_int : PP.cellsOf 3 = 1 := by kernel_rfl
theorem c_i64 : PP.cellsOf 2 = 1 := by kernel_rfl
theorem c_bool : PP.cellsOf 4 = 1 := by kernel_rfl
theorem c_vals : PP.cellsOf 23 = 1 := by kernel_rfl
theorem c_mems : PP.cellsOf 24 = 1 := by kernel_rfl
theorem c_value : PP.cellsOf 26 = 7 := by kernel_rfl
theorem c_member : PP.cellsOf 41 = 9 := by kernel_rfl

section
variable {H : Type} {enc : TypeId × Value → H} {w : World} {G : List (Nat × List V)} {sp : Nat → Bool} {held : Bool}

theorem field_read {fuel : Nat} {t : TypeId} {fs : Array Field} {cs : List Value} {x : DataW H × List MemPlace} {L : List (TypeId × Nat)} (ht : PP.underlying t = some (.struct fs)) (hL : fs.toList.map (fun f => (f.type, f.offset)) = L)
    (h : DataW.trod enc PP w 0 sp held fuel t cs = some x) : ∃ n, fuel = n + 1 ∧ cs.length = PP.cellsOf t ∧ ∀ (i : Nat) (ty : TypeId) (off : Nat), L[i]? = some (ty, off) → ∃ y, DataW.trod enc PP w 0 sp held n ty ((cs.drop off).take (PP.cellsOf ty)) = some y := by
  obtain ⟨xs, n, rfl, _, hl, hxl, hall⟩ := DataW.trod_struct ht h
  refine ⟨n, rfl, hl, fun i ty off hi => ?_⟩
  rw [← hL, List.getElem?_map, Option.map_eq_some_iff] at hi
  obtain ⟨f, hf, he⟩ := hi
  have hf' : fs[i]? = some f := by simpa using hf
  have hlt := (Array.getElem?_eq_some_iff.1 hf').1
  have := hall i f hf'
  simp only [Prod.mk.injEq] at he
  rw [he.1, he.2] at this
  exact ⟨_, this.trans (List.getElem?_eq_getElem (by omega))⟩

theorem rv_int1 {n : Nat} {t : TypeId} {c : Value} {x : DataW H × List MemPlace} {k : IntKind} (ht : PP.underlying t = some (.int k)) (h : DataW.trod enc PP w 0 sp held n t [c] = some x) : ∃ z, c = .int k z := by
  obtain ⟨z, hz, _⟩ := DataW.trod_int ht h
  exact ⟨z, by simpa using hz⟩
theorem rv_bool1 {n : Nat} {c : Value} {x : DataW H × List MemPlace} (h : DataW.trod enc PP w 0 sp held n 4 [c] = some x) : ∃ b, c = .bool b := by
  obtain ⟨z, hz, _⟩ := DataW.trod_bool u_bool h
  exact ⟨z, by simpa using hz⟩
theorem rv_str1 {n : Nat} {c : Value} {x : DataW H × List MemPlace} (h : DataW.trod enc PP w 0 sp held n 9 [c] = some x) : ∃ s : ByteArray, c = .string s ∧ s.size ≤ maxLen := by
  obtain ⟨z, hz, _, hl⟩ := DataW.trod_string u_str h
  exact ⟨z, by simpa using hz, hl⟩

def IsV (v : V) : Prop := ∃ j : JV, v = .agg j.cells
def IsM (v : V) : Prop := ∃ m : JM, v = .agg m.cells
theorem list_vals : ∀ {xs : List V}, (∀ v ∈ xs, IsV v) → ∃ is, xs = encL is
  | [], _ => ⟨[], rfl⟩
  | v :: r, h => by
    obtain ⟨j, rfl⟩ := h v (by simp)
    obtain ⟨is, rfl⟩ := list_vals (xs := r) fun v hv => h v (by simp [hv])
    exact ⟨j :: is, rfl⟩
theorem list_mems : ∀ {xs : List V}, (∀ v ∈ xs, IsM v) → ∃ ms, xs = encMs ms
  | [], _ => ⟨[], rfl⟩
  | v :: r, h => by
    obtain ⟨m, rfl⟩ := h v (by simp)
    obtain ⟨ms, rfl⟩ := list_mems (xs := r) fun v hv => h v (by simp [hv])
    exact ⟨m :: ms, rfl⟩
theorem rv_slcE {nn : Bool} {xs : List V} {u : Value} (h : RV (mem0 G w) w (.slc nn xs .no) u) (hn : nn = false → xs = []) : RV (mem0 G w) w (slcE nn xs) u := by
  have : slcE nn xs = .slc nn xs .no := by
    cases nn with
    | true => rfl
    | false => rw [hn rfl]; rfl
  rw [this]; exact h
theorem RVs.cons {a : V} {b : Value} {cs : List V} {us : List Value} {μ : Mem} (h : RV μ w a b) (hs : RVs μ w cs us) : RVs μ w (a :: cs) (b :: us) :=
  ⟨by simp [hs.1], fun i hi => by
    match i with
    | 0 => exact h
    | i + 1 => exact hs.2 i (by simpa using hi)⟩
theorem RVs.nil {μ : Mem} : RVs μ w [] [] := ⟨rfl, fun i hi => by cases hi⟩
theorem RVs.app {cs cs' : List V} {us us' : List Value} {μ : Mem} (h : RVs μ w cs us) (h' : RVs μ w cs' us') : RVs μ w (cs ++ cs') (us ++ us') := by
  induction cs generalizing us with
  | nil =>
    have : us = [] := by have := h.1; simpa using this.symm
    subst this
    exact h'
  | cons c r ih =>
    match us, h with
    | [], h => cases h.1
    | u :: us, h =>
      have hr : RVs μ w r us := ⟨by have := h.1; simpa using this, fun i hi => by have := h.2 (i + 1) (by simpa using hi); simpa using this⟩
      have h0 : RV μ w c u := by have := h.2 0 (by simp); simpa using this
      exact RVs.cons h0 (ih hr)

theorem json_elems : ∀ (n : Nat), ElemOk enc PP w G sp held n 26 7 IsV ∧ ElemOk enc PP w G sp held n 41 9 IsM := by
  intro n
  induction n using Nat.strongRecOn with
  | _ n ih =>
    constructor
    · intro cs x hl h
      obtain ⟨m, rfl, _, hf⟩ := field_read u_value f_value h
      match cs, hl with
      | [c0, c1, c2, c3, c4, c5, c6], _ =>
        obtain ⟨_, h0⟩ := hf 0 _ _ rfl
        obtain ⟨_, h1⟩ := hf 1 _ _ rfl
        obtain ⟨_, h2⟩ := hf 2 _ _ rfl
        obtain ⟨_, h3⟩ := hf 3 _ _ rfl
        obtain ⟨_, h4⟩ := hf 4 _ _ rfl
        obtain ⟨_, h5⟩ := hf 5 _ _ rfl
        obtain ⟨_, h6⟩ := hf 6 _ _ rfl
        rw [c_int] at h0 h6
        rw [c_bool] at h1
        rw [c_i64] at h2
        rw [c_str] at h3
        rw [c_vals] at h4
        rw [c_mems] at h5
        obtain ⟨k, rfl⟩ := rv_int1 u_int h0
        obtain ⟨b, rfl⟩ := rv_bool1 h1
        obtain ⟨z, rfl⟩ := rv_int1 u_i64 h2
        obtain ⟨s, rfl, _⟩ := rv_str1 h3
        obtain ⟨a, rfl⟩ := rv_int1 u_int h6
        obtain ⟨ni, xs, u4, e4, hR4, hr4, ho4, hn4, _⟩ := rv_slice (G := G) u_vals c_value (by omega) (fun k hk => (ih k (by omega)).1) h4
        obtain ⟨nm, ys, u5, e5, hR5, hr5, ho5, hn5, _⟩ := rv_slice (G := G) u_mems c_member (by omega) (fun k hk => (ih k (by omega)).2) h5
        obtain ⟨is, rfl⟩ := list_vals hR4
        obtain ⟨ms, rfl⟩ := list_mems hR5
        obtain rfl : c4 = u4 := by simpa using e4
        obtain rfl : c5 = u5 := by simpa using e5
        refine ⟨.agg (JV.mk k b z s.data.toList ni is nm ms a).cells, ⟨_, rfl⟩, JV.len _, ?_, ?_⟩
        · exact RVs.cons (.int _ _) (RVs.cons (.bool _) (RVs.cons (.int _ _) (RVs.cons (.str _) (RVs.cons (rv_slcE hr4 hn4) (RVs.cons (rv_slcE hr5 hn5) (RVs.cons (.int _ _) RVs.nil))))))
        · intro u hu
          simp only [List.mem_cons, List.not_mem_nil, or_false] at hu
          rcases hu with rfl | rfl | rfl | rfl | rfl | rfl | rfl <;> first | rfl | assumption
    · intro cs x hl h
      obtain ⟨m, rfl, _, hf⟩ := field_read u_member f_member h
      obtain ⟨_, h0⟩ := hf 0 _ _ rfl
      obtain ⟨_, h1⟩ := hf 1 _ _ rfl
      obtain ⟨_, h2⟩ := hf 2 _ _ rfl
      rw [c_str] at h0
      rw [c_value] at h1
      rw [c_int] at h2
      obtain ⟨v, ⟨j, rfl⟩, _, hrv, hone⟩ := (ih m (by omega)).1 ((cs.drop 1).take 7) _ (by simp; omega) h1
      match cs, hl with
      | [c0, c1, c2, c3, c4, c5, c6, c7, c8], _ =>
        obtain ⟨s, rfl, _⟩ := rv_str1 h0
        obtain ⟨a, rfl⟩ := rv_int1 u_int h2
        refine ⟨.agg (JM.mk s.data.toList j a).cells, ⟨_, rfl⟩, JM.len _, ?_, ?_⟩
        · exact RVs.cons (.str _) (RVs.app (us := [c1, c2, c3, c4, c5, c6, c7]) hrv (RVs.cons (.int _ _) RVs.nil))
        · intro u hu
          simp only [List.mem_cons, List.not_mem_nil, or_false] at hu
          simp only [List.drop_succ_cons, List.drop_zero, List.take_succ_cons, List.take_zero, List.mem_cons, List.not_mem_nil, or_false] at hone
          rcases hu with rfl | hu | hu | hu | hu | hu | hu | hu | rfl
          · rfl
          all_goals first | rfl | (exact hone u (by simp [hu]))

/-- A value handed to the law. -/
theorem rv_value {b0 : Nat} {v : Value} {d : DataW H} {ps : List MemPlace} (hval : Value.okWide PP w .any b0 26 v) (hd : DataW.Trod enc PP w 0 sp held 26 v d ps) : ∃ j : JV, RV (mem0 G w) w j.enc v := by
  obtain ⟨fuel, hf⟩ := hd
  simp only [Value.okWide, u_value] at hval
  obtain ⟨us, rfl, hsz, _⟩ := hval
  rw [c_value] at hsz
  obtain ⟨_, ⟨j, rfl⟩, _, hr, hone⟩ := (json_elems (enc := enc) (w := w) (G := G) (sp := sp) (held := held) fuel).1 us.toList _ (by simpa using hsz) hf
  have := RV.agg (μ := mem0 G w) (w := w) j.cells us.toList hr.1 hone hr.2
  exact ⟨j, by show RV (mem0 G w) w (V.agg j.cells) _; simpa using this⟩
end
end Go.Proofs.YtgdcdkgmeomhpaaGreatDoor

namespace Go.Proofs.YtgdcdkgmeomhpaaGreatDoor
open Go Go.Vs Go.RowKit Go.ChangeShapes
set_option maxRecDepth 100000

theorem jsonvalueMatchesReference_lifted (os : Os) (started : os.Started) (H : Type) (enc : TypeId × Value → H) :
    ReturnsInHanded {} Go.Proofs.Tryz.checked os 3 .any (fun w args => (Rows.jsonvalueMatchesReferenceSpec.pre enc PP Go.Proofs.Tryz.f3 [] false w args ∧ laidMet PP Rows.jsonvalueMatchesReferenceRow.laid w) ∧ sizedMet enc PP Go.Proofs.Tryz.f3 (OpenSpec.ofChange Rows.jsonvalueMatchesReferenceSpec) false w args)
      (Rows.jsonvalueMatchesReferenceSpec.post enc PP Go.Proofs.Tryz.f3 false true false false) := by
  refine returnsInHanded_of_change_and (C := Go.Proofs.Tryz.checked) (X := fun w _ => laidMet PP Rows.jsonvalueMatchesReferenceRow.laid w) (fun _ _ _ hh h => h.of_heap hh) own started (by kernel_rfl) Go.Proofs.Tryz.func3
    (ChangeSpec.witness_at (enc := enc) (C := Go.Proofs.Tryz.checked) (os := os) (X := fun w _ => laidMet PP Rows.jsonvalueMatchesReferenceRow.laid w) false (laidWorld os) #[.string ⟨#[]⟩] 8 rfl (by kernel_rfl) (by kernel_rfl) (by kernel_rfl) (by kernel_rfl) (by kernel_rfl) (laidWorld_met os _)) ?_
  intro W base args ds gs before hval0 hW _ _ hL _
  have hval : ∀ (j : Nat) t v, Go.Proofs.Tryz.f3.params[j]? = some t → args[j]? = some v → Value.okWide PP W .any base t v := hval0
  have hW' := hW
  obtain ⟨p, q, hA0, hV, rfl, hfz, hnd⟩ := hW
  have hA : DataW.TrodAll enc PP W 0 (fun _ => true) true Go.Proofs.Tryz.f3.params.toList args.toList ds p := hA0
  rw [Go.Proofs.Tryz.params3] at hA hval
  obtain ⟨v0, d0, rfl, rfl, h0⟩ := trodAll_one hA
  obtain ⟨x0, rfl, rfl, rfl, b0⟩ := Go.ChangeMaps.open_string u_str (hval 0 9 v0 rfl rfl) h0
  have hG := gok_of_laid hL (by simp [Rows.jsonvalueMatchesReferenceRow]) (by simp [Rows.jsonvalueMatchesReferenceRow]) (by simp [Rows.jsonvalueMatchesReferenceRow]) (by simp [Rows.jsonvalueMatchesReferenceRow]) (by simp [Rows.jsonvalueMatchesReferenceRow])
  have hC := law_calls (X := Xc) (W := W) (args := [.str x0.data.toList]) (us := [.string x0]) (f := 3) (law11Match_C (by have e : maxLen ≤ 9223372036854775807 := (by decide); have := b0; simp; omega) rfl) hG ⟨rfl, fun i hi => by
    match i, hi with
    | 0, _ => exact .str x0⟩
  refine hC.mono fun e W' ⟨he, hb⟩ => ⟨_, he, law_post rfl (by kernel_rfl) (by kernel_rfl) (fun hg => by subst hg; rfl) hW' hb⟩

theorem jsonvalueMatchesReference_row : Rows.JsonvalueMatchesReferenceSaid :=
  OpenClaim.holds_of_wide 3 Go.Proofs.Tryz.f3 rfl rfl rfl rfl rfl rfl rfl ⟨rfl, rfl, rfl, rfl, rfl⟩ rfl rfl rfl rfl rfl (by kernel_rfl) Go.Proofs.Tryz.func3 (by kernel_rfl)
    (of_decide_eq_true (by kernel_rfl)) (by unfold Func.isWrapper; rw [if_neg (of_decide_eq_false (by kernel_rfl))]; exact ⟨rfl, rfl⟩)
    (fun os started H enc _ => jsonvalueMatchesReference_lifted os started H enc)

theorem jsonvalueMatchesReference_card : Rows.JsonvalueMatchesReferenceCardSaid :=
  Claim7.holds_tied_plain_at .later [] [.data, .data, .data, .data, .sentinel, .sentinel, .data, .pinned] true (true, "c3f5a6a9bd9ab29e60a9a81d36d2f08af5b4463ab56fa5ea78a7045cfeadc5d0") true
    jsonvalueMatchesReference_row (fun _ h => by cases h) (by kernel_rfl) (fun _ h => by cases h) jsonvalueMatchesReference_row_tie rfl ⟨rfl, rfl⟩ (by kernel_rfl) rfl
    (fun f fn hf hfn => by
      obtain rfl : f = 3 := Option.some.inj ((show PP.funcNamed "feedvault/feedvaultlaw11.JsonvalueMatchesReference" = some 3 by kernel_rfl).symm.trans hf) |>.symm
      obtain rfl : fn = Go.Proofs.Tryz.f3 := (Option.some.inj (Go.Proofs.Tryz.func3.symm.trans hfn)).symm
      refine ⟨by kernel_rfl, fun j t ht => ?_⟩
      rw [Go.Proofs.Tryz.params3] at ht
      match j, ht with
      | 0, ht => simp at ht; subst ht; exact (show PP.wantsStandIn 9 = false by kernel_rfl)
      | j + 1, ht => simp at ht)
    (by kernel_rfl)
#print axioms jsonvalueMatchesReference_card
end Go.Proofs.YtgdcdkgmeomhpaaGreatDoor
