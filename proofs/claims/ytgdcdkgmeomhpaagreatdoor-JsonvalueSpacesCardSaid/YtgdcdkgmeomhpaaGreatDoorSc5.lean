/- 'JsonvalueSpaces' holds: for every string and every byte white space around an accepted text does not change the value, where the listed package variables start as the program's text lays them (the tied card). -/
import Derived.Test.YtgdcdkgmeomhpaaGreatDoorProg
import Derived.KernelRfl
import Derived.Handed
import Derived.LaidLaws
import Derived.Lib.LaidU8
import Derived.ProofKit
import Derived.JoinedOf
import Derived.Test.YtgdcdkgmeomhpaaGreatDoorTie
import Derived.SevenTiedAt
import Derived.Test.YtgdcdkgmeomhpaaGreatDoorCards
import Derived.Test.YtgdcdkgmeomhpaaGreatDoorSc1
import Derived.Test.YtgdcdkgmeomhpaaGreatDoorSc2
import Derived.Test.YtgdcdkgmeomhpaaGreatDoorSc3
import Derived.Test.YtgdcdkgmeomhpaaGreatDoorSc4
set_option linter.unusedVariables false
set_option linter.unusedSimpArgs false

namespace Go.Proofs.YtgdcdkgmeomhpaaGreatDoor
open Go Go.Vs
set_option maxRecDepth 20000
attribute [local irreducible] chooseK

theorem wrapu64 {n : Nat} (h : n < 18446744073709551616) : IntKind.wrap .u64 (n : Int) = (n : Int) := by
  simp only [IntKind.wrap, IntKind.signed, IntKind.bits]
  simp
  omega

theorem step64 {u c : Nat} (hu : u < 1000000000000000000) (h1 : 48 ≤ c) (h2 : c ≤ 57) : IntKind.wrap .u64 (IntKind.wrap .u64 ((u : Int) * 10) + IntKind.wrap .u64 (IntKind.wrap .u8 ((c : Int) - 48))) = ((u * 10 + (c - 48) : Nat) : Int) := by
  have e1 : ((c : Int) - 48) = ((c - 48 : Nat) : Int) := by omega
  have e2 : ((u : Int) * 10) = ((u * 10 : Nat) : Int) := by omega
  rw [e1, e2, wrapu8, Nat.mod_eq_of_lt (by omega), wrapu64 (by omega), wrapu64 (by omega), ← Int.natCast_add, wrapu64 (by omega)]
theorem neg64 {u : Nat} (hu : u ≤ 9223372036854775808) : IntKind.wrap .i64 (IntKind.wrap .u64 (0 - (u : Int))) = -(u : Int) := by
  simp only [IntKind.wrap, IntKind.signed, IntKind.bits]
  simp
  omega
theorem pos64 {u : Nat} (hu : u < 9223372036854775808) : IntKind.wrap .i64 (u : Int) = (u : Int) := wrap64 (by omega)

/-- The digits from place j on, behind what those before spell. -/
theorem digN_step {d : List UInt8} {j u : Nat} (h : j < d.length) : digN (d.drop j) u = if 48 ≤ bN d j ∧ bN d j ≤ 57 then digN (d.drop (j + 1)) (u * 10 + (bN d j - 48)) else none := by
  rw [drop_getD 0 h, digN]
  rfl



theorem refNumber_C {s : List UInt8} {σ : St} {Q : Out → St → Prop} (hs : s.length ≤ big)
    (h : match numR s with | some v => Q (.ret (.tup [.int .i64 v, .bool true])) σ | none => ∀ n, Q (.ret (.tup [.int .i64 n, .bool false])) σ) : C Xc 42 [.str s] σ Q := by
  have hs' := hs
  unfold big at hs'
  unfold numR at h
  refine body cf_refNumber (Eq.refl true) ?_
  have t0 : Int.toNat 0 = 0 := rfl
  have t1 : Int.toNat 1 = 1 := rfl
  simp -implicitDefEqProofs only [vf_refNumber, ws, ↓reduceIte, Nat.reduceEqDiff, Nat.reduceAdd, Nat.reduceLeDiff]
  by_cases h0 : s = []
  · have hD : numD s = s := by rw [h0]; rfl
    have e : (s == []) = true := by simp [h0]
    simp -implicitDefEqProofs only [e, ws, ↓reduceIte, Nat.reduceEqDiff, Nat.reduceAdd, Nat.reduceLeDiff]
    rw [if_pos (.inl (hD.trans h0))] at h
    exact .inl (h 0)
  have e : (s == []) = false := by simp [h0]
  have hpos : 0 < s.length := List.length_pos_iff.2 h0
  simp -implicitDefEqProofs only [e, t0, ws, ↓reduceIte, Nat.reduceEqDiff, Nat.reduceAdd, Nat.reduceLeDiff]
  refine ⟨by omega, ?_⟩
  have hi0 : ((s.getD 0 0).toNat : Int) = (bN s 0 : Int) := rfl
  refine chooseK_split (fun h4 => ?_) (fun h4 => ?_) <;> simp -implicitDefEqProofs only [h4, cut_drop, t1, ws, ↓reduceIte, Nat.reduceEqDiff, Nat.reduceAdd, Nat.reduceLeDiff]
  · refine ⟨by omega, ?_⟩
    have hD : numD s = s.drop 1 := by rw [numD, if_pos ⟨h0, by rw [hi0] at h4; simp at h4; omega⟩]
    have hDl : (s.drop 1).length ≤ s.length := by simp
    rw [hD] at h
    generalize s.drop 1 = d at *
    refine chooseK_split (fun h1 => ?_) (fun h1 => ?_) <;> simp -implicitDefEqProofs only [h1, ws, ↓reduceIte, Nat.reduceEqDiff, Nat.reduceAdd, Nat.reduceLeDiff]
    · have : d = [] := by simpa using h1
      rw [if_pos (.inl (by exact this))] at h
      exact .inl (h 0)
    have hne : d ≠ [] := by simpa using h1
    refine chooseK_split (fun h2 => ?_) (fun h2 => ?_) <;> simp -implicitDefEqProofs only [h2, ws, ↓reduceIte, Nat.reduceEqDiff, Nat.reduceAdd, Nat.reduceLeDiff]
    · rw [if_pos (.inr (.inl (by simp at h2; omega)))] at h
      exact .inl (h 0)
    refine chooseK_split (fun h3 => ?_) (fun h3 => ?_) <;> simp -implicitDefEqProofs only [h3, t0, ws, ↓reduceIte, Nat.reduceEqDiff, Nat.reduceAdd, Nat.reduceLeDiff]
    · refine ⟨⟨by omega, by simp at h3; omega⟩, ?_⟩
      refine chooseK_split (fun h7 => ?_) (fun h7 => ?_) <;> simp -implicitDefEqProofs only [h7, ws, ↓reduceIte, Nat.reduceEqDiff, Nat.reduceAdd, Nat.reduceLeDiff]
      · rw [if_pos (.inr (.inr ⟨by simp at h3; omega, by have e7 : ((d.getD 0 0).toNat : Int) = (bN d 0 : Int) := rfl; rw [e7] at h7; simp at h7; omega⟩))] at h
        exact .inl (h 0)
      have hnn : ¬ (d = [] ∨ 19 < d.length ∨ 1 < d.length ∧ bN d 0 = 48) := by
        have e7 : ((d.getD 0 0).toNat : Int) = (bN d 0 : Int) := rfl
        rw [e7] at h7
        simp at h7 h2
        rintro (h | h | h)
        · exact hne h
        · omega
        · omega
      rw [if_neg hnn] at h
      have hl19 : d.length ≤ 19 := by simp at h2; omega
      refine LoopP.intro (fun n fr σ' => ∃ (j u : Nat), j ≤ d.length ∧ n = d.length - j ∧ digN d 0 = digN (d.drop j) u ∧ u < 10 ^ j ∧ fr 0 = .str s ∧ fr 4 = .str d ∧ fr 5 = .int .u64 (u : Int) ∧ fr 6 = .int .i64 (j : Int) ∧ σ' = σ) d.length ?_ ?_
      · exact ⟨0, 0, by omega, by omega, by rw [List.drop_zero], by simp, by simp -implicitDefEqProofs only [ws, ↓reduceIte, Nat.reduceEqDiff, Nat.reduceAdd, Nat.reduceLeDiff], by simp -implicitDefEqProofs only [ws, ↓reduceIte, Nat.reduceEqDiff, Nat.reduceAdd, Nat.reduceLeDiff], by simp -implicitDefEqProofs only [Int.natCast_zero, ws, ↓reduceIte, Nat.reduceEqDiff, Nat.reduceAdd, Nat.reduceLeDiff], by simp -implicitDefEqProofs only [Int.natCast_zero, ws, ↓reduceIte, Nat.reduceEqDiff, Nat.reduceAdd, Nat.reduceLeDiff], rfl⟩
      rintro n fr σ' ⟨j, u, hj, rfl, hg, hu, f0, f4, f5, f6, rfl⟩
      simp -implicitDefEqProofs only [f0, f4, f5, f6, ws, ↓reduceIte, Nat.reduceEqDiff, Nat.reduceAdd, Nat.reduceLeDiff]
      refine chooseK_split (fun h5 => ?_) (fun h5 => ?_) <;> simp -implicitDefEqProofs only [h5, f0, f4, f5, f6, ws, ↓reduceIte, Nat.reduceEqDiff, Nat.reduceAdd, Nat.reduceLeDiff]
      · have hjl : j < d.length := by simp at h5; omega
        rw [digN_step hjl] at hg
        have hb : ((d.getD j 0).toNat : Int) = (bN d j : Int) := rfl
        rw [hb]
        have hb8 := bN_lt d j
        refine ⟨by omega, ?_⟩
        refine chooseK_split (fun h6 => ?_) (fun h6 => ?_) <;> simp -implicitDefEqProofs only [h6, f0, f4, f5, f6, ws, ↓reduceIte, Nat.reduceEqDiff, Nat.reduceAdd, Nat.reduceLeDiff]
        · rw [if_neg (by simp at h6; omega)] at hg
          rw [hg] at h
          exact .inl (h 0)
        rw [hb]
        refine ⟨by omega, ?_⟩
        refine chooseK_split (fun h8 => ?_) (fun h8 => ?_) <;> simp -implicitDefEqProofs only [h8, f0, f4, f5, f6, ws, ↓reduceIte, Nat.reduceEqDiff, Nat.reduceAdd, Nat.reduceLeDiff]
        · rw [if_neg (by simp at h8; omega)] at hg
          rw [hg] at h
          exact .inl (h 0)
        rw [if_pos (by simp at h6 h8; omega)] at hg
        have hp18 : 10 ^ j ≤ 10 ^ 18 := Nat.pow_le_pow_right (by omega) (by omega)
        have h18 : 10 ^ 18 = 1000000000000000000 := by decide
        refine ⟨by omega, ?_⟩
        rw [hb, step64 (by omega) (by simp at h6; omega) (by simp at h8; omega), wrap64 (by omega)]
        exact ⟨d.length - (j + 1), by omega, j + 1, u * 10 + (bN d j - 48), by omega, rfl, hg, by rw [Nat.pow_succ]; simp at h8; omega, by simp -implicitDefEqProofs only [f0, ws, ↓reduceIte, Nat.reduceEqDiff, Nat.reduceAdd, Nat.reduceLeDiff], by simp -implicitDefEqProofs only [f4, ws, ↓reduceIte, Nat.reduceEqDiff, Nat.reduceAdd, Nat.reduceLeDiff], by simp -implicitDefEqProofs only [ws, ↓reduceIte, Nat.reduceEqDiff, Nat.reduceAdd, Nat.reduceLeDiff], by simp -implicitDefEqProofs only [ws, ↓reduceIte, Nat.reduceEqDiff, Nat.reduceAdd, Nat.reduceLeDiff]; rfl, rfl⟩
      · have hj2 : j = d.length := by simp at h5; omega
        rw [List.drop_of_length_le (by omega), digN] at hg
        rw [hg] at h
        have hp19 : 10 ^ j ≤ 10 ^ 19 := Nat.pow_le_pow_right (by omega) (by omega)
        rw [pow19] at hp19
        simp only at h
        refine chooseK_split (fun h9 => ?_) (fun h9 => ?_) <;> simp -implicitDefEqProofs only [h9, f0, f4, f5, f6, ws, ↓reduceIte, Nat.reduceEqDiff, Nat.reduceAdd, Nat.reduceLeDiff]
        · rw [if_pos (by have := of_decide_eq_true h9; omega)] at h
          by_cases hu9 : u ≤ 9223372036854775808
          · rw [if_pos hu9] at h
            rw [neg64 hu9, decide_eq_true (by omega)]
            exact .inl h
          · rw [if_neg hu9] at h
            rw [decide_eq_false (by omega)]
            exact .inl (h _)
        · rw [if_neg (by have := of_decide_eq_false h9; omega)] at h
          by_cases hu9 : u < 9223372036854775808
          · rw [if_pos hu9] at h
            rw [pos64 hu9, decide_eq_true (by omega)]
            exact .inl h
          · rw [if_neg hu9] at h
            rw [decide_eq_false (by omega)]
            exact .inl (h _)
    · have hnn : ¬ (d = [] ∨ 19 < d.length ∨ 1 < d.length ∧ bN d 0 = 48) := by
        simp at h2 h3
        rintro (h | h | h)
        · exact hne h
        · omega
        · omega
      rw [if_neg hnn] at h
      have hl19 : d.length ≤ 19 := by simp at h2; omega
      refine LoopP.intro (fun n fr σ' => ∃ (j u : Nat), j ≤ d.length ∧ n = d.length - j ∧ digN d 0 = digN (d.drop j) u ∧ u < 10 ^ j ∧ fr 0 = .str s ∧ fr 4 = .str d ∧ fr 5 = .int .u64 (u : Int) ∧ fr 6 = .int .i64 (j : Int) ∧ σ' = σ) d.length ?_ ?_
      · exact ⟨0, 0, by omega, by omega, by rw [List.drop_zero], by simp, by simp -implicitDefEqProofs only [ws, ↓reduceIte, Nat.reduceEqDiff, Nat.reduceAdd, Nat.reduceLeDiff], by simp -implicitDefEqProofs only [ws, ↓reduceIte, Nat.reduceEqDiff, Nat.reduceAdd, Nat.reduceLeDiff], by simp -implicitDefEqProofs only [Int.natCast_zero, ws, ↓reduceIte, Nat.reduceEqDiff, Nat.reduceAdd, Nat.reduceLeDiff], by simp -implicitDefEqProofs only [Int.natCast_zero, ws, ↓reduceIte, Nat.reduceEqDiff, Nat.reduceAdd, Nat.reduceLeDiff], rfl⟩
      rintro n fr σ' ⟨j, u, hj, rfl, hg, hu, f0, f4, f5, f6, rfl⟩
      simp -implicitDefEqProofs only [f0, f4, f5, f6, ws, ↓reduceIte, Nat.reduceEqDiff, Nat.reduceAdd, Nat.reduceLeDiff]
      refine chooseK_split (fun h5 => ?_) (fun h5 => ?_) <;> simp -implicitDefEqProofs only [h5, f0, f4, f5, f6, ws, ↓reduceIte, Nat.reduceEqDiff, Nat.reduceAdd, Nat.reduceLeDiff]
      · have hjl : j < d.length := by simp at h5; omega
        rw [digN_step hjl] at hg
        have hb : ((d.getD j 0).toNat : Int) = (bN d j : Int) := rfl
        rw [hb]
        have hb8 := bN_lt d j
        refine ⟨by omega, ?_⟩
        refine chooseK_split (fun h6 => ?_) (fun h6 => ?_) <;> simp -implicitDefEqProofs only [h6, f0, f4, f5, f6, ws, ↓reduceIte, Nat.reduceEqDiff, Nat.reduceAdd, Nat.reduceLeDiff]
        · rw [if_neg (by simp at h6; omega)] at hg
          rw [hg] at h
          exact .inl (h 0)
        rw [hb]
        refine ⟨by omega, ?_⟩
        refine chooseK_split (fun h8 => ?_) (fun h8 => ?_) <;> simp -implicitDefEqProofs only [h8, f0, f4, f5, f6, ws, ↓reduceIte, Nat.reduceEqDiff, Nat.reduceAdd, Nat.reduceLeDiff]
        · rw [if_neg (by simp at h8; omega)] at hg
          rw [hg] at h
          exact .inl (h 0)
        rw [if_pos (by simp at h6 h8; omega)] at hg
        have hp18 : 10 ^ j ≤ 10 ^ 18 := Nat.pow_le_pow_right (by omega) (by omega)
        have h18 : 10 ^ 18 = 1000000000000000000 := by decide
        refine ⟨by omega, ?_⟩
        rw [hb, step64 (by omega) (by simp at h6; omega) (by simp at h8; omega), wrap64 (by omega)]
        exact ⟨d.length - (j + 1), by omega, j + 1, u * 10 + (bN d j - 48), by omega, rfl, hg, by rw [Nat.pow_succ]; simp at h8; omega, by simp -implicitDefEqProofs only [f0, ws, ↓reduceIte, Nat.reduceEqDiff, Nat.reduceAdd, Nat.reduceLeDiff], by simp -implicitDefEqProofs only [f4, ws, ↓reduceIte, Nat.reduceEqDiff, Nat.reduceAdd, Nat.reduceLeDiff], by simp -implicitDefEqProofs only [ws, ↓reduceIte, Nat.reduceEqDiff, Nat.reduceAdd, Nat.reduceLeDiff], by simp -implicitDefEqProofs only [ws, ↓reduceIte, Nat.reduceEqDiff, Nat.reduceAdd, Nat.reduceLeDiff]; rfl, rfl⟩
      · have hj2 : j = d.length := by simp at h5; omega
        rw [List.drop_of_length_le (by omega), digN] at hg
        rw [hg] at h
        have hp19 : 10 ^ j ≤ 10 ^ 19 := Nat.pow_le_pow_right (by omega) (by omega)
        rw [pow19] at hp19
        simp only at h
        refine chooseK_split (fun h9 => ?_) (fun h9 => ?_) <;> simp -implicitDefEqProofs only [h9, f0, f4, f5, f6, ws, ↓reduceIte, Nat.reduceEqDiff, Nat.reduceAdd, Nat.reduceLeDiff]
        · rw [if_pos (by have := of_decide_eq_true h9; omega)] at h
          by_cases hu9 : u ≤ 9223372036854775808
          · rw [if_pos hu9] at h
            rw [neg64 hu9, decide_eq_true (by omega)]
            exact .inl h
          · rw [if_neg hu9] at h
            rw [decide_eq_false (by omega)]
            exact .inl (h _)
        · rw [if_neg (by have := of_decide_eq_false h9; omega)] at h
          by_cases hu9 : u < 9223372036854775808
          · rw [if_pos hu9] at h
            rw [pos64 hu9, decide_eq_true (by omega)]
            exact .inl h
          · rw [if_neg hu9] at h
            rw [decide_eq_false (by omega)]
            exact .inl (h _)
  · have hD : numD s = s := by rw [numD, if_neg (fun e => by rw [hi0] at h4; simp at h4; omega)]
    rw [hD] at h
    have hDl : s.length ≤ s.length := Nat.le_refl _
    refine chooseK_split (fun h1 => ?_) (fun h1 => ?_) <;> simp -implicitDefEqProofs only [h1, ws, ↓reduceIte, Nat.reduceEqDiff, Nat.reduceAdd, Nat.reduceLeDiff]
    · have : s = [] := by simpa using h1
      rw [if_pos (.inl (by exact this))] at h
      exact .inl (h 0)
    have hne : s ≠ [] := by simpa using h1
    refine chooseK_split (fun h2 => ?_) (fun h2 => ?_) <;> simp -implicitDefEqProofs only [h2, ws, ↓reduceIte, Nat.reduceEqDiff, Nat.reduceAdd, Nat.reduceLeDiff]
    · rw [if_pos (.inr (.inl (by simp at h2; omega)))] at h
      exact .inl (h 0)
    refine chooseK_split (fun h3 => ?_) (fun h3 => ?_) <;> simp -implicitDefEqProofs only [h3, t0, ws, ↓reduceIte, Nat.reduceEqDiff, Nat.reduceAdd, Nat.reduceLeDiff]
    · refine ⟨⟨by omega, by simp at h3; omega⟩, ?_⟩
      refine chooseK_split (fun h7 => ?_) (fun h7 => ?_) <;> simp -implicitDefEqProofs only [h7, ws, ↓reduceIte, Nat.reduceEqDiff, Nat.reduceAdd, Nat.reduceLeDiff]
      · rw [if_pos (.inr (.inr ⟨by simp at h3; omega, by have e7 : ((s.getD 0 0).toNat : Int) = (bN s 0 : Int) := rfl; rw [e7] at h7; simp at h7; omega⟩))] at h
        exact .inl (h 0)
      have hnn : ¬ (s = [] ∨ 19 < s.length ∨ 1 < s.length ∧ bN s 0 = 48) := by
        have e7 : ((s.getD 0 0).toNat : Int) = (bN s 0 : Int) := rfl
        rw [e7] at h7
        simp at h7 h2
        rintro (h | h | h)
        · exact hne h
        · omega
        · omega
      rw [if_neg hnn] at h
      have hl19 : s.length ≤ 19 := by simp at h2; omega
      refine LoopP.intro (fun n fr σ' => ∃ (j u : Nat), j ≤ s.length ∧ n = s.length - j ∧ digN s 0 = digN (s.drop j) u ∧ u < 10 ^ j ∧ fr 0 = .str s ∧ fr 4 = .str s ∧ fr 5 = .int .u64 (u : Int) ∧ fr 6 = .int .i64 (j : Int) ∧ σ' = σ) s.length ?_ ?_
      · exact ⟨0, 0, by omega, by omega, by rw [List.drop_zero], by simp, by simp -implicitDefEqProofs only [ws, ↓reduceIte, Nat.reduceEqDiff, Nat.reduceAdd, Nat.reduceLeDiff], by simp -implicitDefEqProofs only [ws, ↓reduceIte, Nat.reduceEqDiff, Nat.reduceAdd, Nat.reduceLeDiff], by simp -implicitDefEqProofs only [Int.natCast_zero, ws, ↓reduceIte, Nat.reduceEqDiff, Nat.reduceAdd, Nat.reduceLeDiff], by simp -implicitDefEqProofs only [Int.natCast_zero, ws, ↓reduceIte, Nat.reduceEqDiff, Nat.reduceAdd, Nat.reduceLeDiff], rfl⟩
      rintro n fr σ' ⟨j, u, hj, rfl, hg, hu, f0, f4, f5, f6, rfl⟩
      simp -implicitDefEqProofs only [f0, f4, f5, f6, ws, ↓reduceIte, Nat.reduceEqDiff, Nat.reduceAdd, Nat.reduceLeDiff]
      refine chooseK_split (fun h5 => ?_) (fun h5 => ?_) <;> simp -implicitDefEqProofs only [h5, f0, f4, f5, f6, ws, ↓reduceIte, Nat.reduceEqDiff, Nat.reduceAdd, Nat.reduceLeDiff]
      · have hjl : j < s.length := by simp at h5; omega
        rw [digN_step hjl] at hg
        have hb : ((s.getD j 0).toNat : Int) = (bN s j : Int) := rfl
        rw [hb]
        have hb8 := bN_lt s j
        refine ⟨by omega, ?_⟩
        refine chooseK_split (fun h6 => ?_) (fun h6 => ?_) <;> simp -implicitDefEqProofs only [h6, f0, f4, f5, f6, ws, ↓reduceIte, Nat.reduceEqDiff, Nat.reduceAdd, Nat.reduceLeDiff]
        · rw [if_neg (by simp at h6; omega)] at hg
          rw [hg] at h
          exact .inl (h 0)
        rw [hb]
        refine ⟨by omega, ?_⟩
        refine chooseK_split (fun h8 => ?_) (fun h8 => ?_) <;> simp -implicitDefEqProofs only [h8, f0, f4, f5, f6, ws, ↓reduceIte, Nat.reduceEqDiff, Nat.reduceAdd, Nat.reduceLeDiff]
        · rw [if_neg (by simp at h8; omega)] at hg
          rw [hg] at h
          exact .inl (h 0)
        rw [if_pos (by simp at h6 h8; omega)] at hg
        have hp18 : 10 ^ j ≤ 10 ^ 18 := Nat.pow_le_pow_right (by omega) (by omega)
        have h18 : 10 ^ 18 = 1000000000000000000 := by decide
        refine ⟨by omega, ?_⟩
        rw [hb, step64 (by omega) (by simp at h6; omega) (by simp at h8; omega), wrap64 (by omega)]
        exact ⟨s.length - (j + 1), by omega, j + 1, u * 10 + (bN s j - 48), by omega, rfl, hg, by rw [Nat.pow_succ]; simp at h8; omega, by simp -implicitDefEqProofs only [f0, ws, ↓reduceIte, Nat.reduceEqDiff, Nat.reduceAdd, Nat.reduceLeDiff], by simp -implicitDefEqProofs only [f4, ws, ↓reduceIte, Nat.reduceEqDiff, Nat.reduceAdd, Nat.reduceLeDiff], by simp -implicitDefEqProofs only [ws, ↓reduceIte, Nat.reduceEqDiff, Nat.reduceAdd, Nat.reduceLeDiff], by simp -implicitDefEqProofs only [ws, ↓reduceIte, Nat.reduceEqDiff, Nat.reduceAdd, Nat.reduceLeDiff]; rfl, rfl⟩
      · have hj2 : j = s.length := by simp at h5; omega
        rw [List.drop_of_length_le (by omega), digN] at hg
        rw [hg] at h
        have hp19 : 10 ^ j ≤ 10 ^ 19 := Nat.pow_le_pow_right (by omega) (by omega)
        rw [pow19] at hp19
        simp only at h
        refine chooseK_split (fun h9 => ?_) (fun h9 => ?_) <;> simp -implicitDefEqProofs only [h9, f0, f4, f5, f6, ws, ↓reduceIte, Nat.reduceEqDiff, Nat.reduceAdd, Nat.reduceLeDiff]
        · rw [if_pos (by have := of_decide_eq_true h9; omega)] at h
          by_cases hu9 : u ≤ 9223372036854775808
          · rw [if_pos hu9] at h
            rw [neg64 hu9, decide_eq_true (by omega)]
            exact .inl h
          · rw [if_neg hu9] at h
            rw [decide_eq_false (by omega)]
            exact .inl (h _)
        · rw [if_neg (by have := of_decide_eq_false h9; omega)] at h
          by_cases hu9 : u < 9223372036854775808
          · rw [if_pos hu9] at h
            rw [pos64 hu9, decide_eq_true (by omega)]
            exact .inl h
          · rw [if_neg hu9] at h
            rw [decide_eq_false (by omega)]
            exact .inl (h _)
    · have hnn : ¬ (s = [] ∨ 19 < s.length ∨ 1 < s.length ∧ bN s 0 = 48) := by
        simp at h2 h3
        rintro (h | h | h)
        · exact hne h
        · omega
        · omega
      rw [if_neg hnn] at h
      have hl19 : s.length ≤ 19 := by simp at h2; omega
      refine LoopP.intro (fun n fr σ' => ∃ (j u : Nat), j ≤ s.length ∧ n = s.length - j ∧ digN s 0 = digN (s.drop j) u ∧ u < 10 ^ j ∧ fr 0 = .str s ∧ fr 4 = .str s ∧ fr 5 = .int .u64 (u : Int) ∧ fr 6 = .int .i64 (j : Int) ∧ σ' = σ) s.length ?_ ?_
      · exact ⟨0, 0, by omega, by omega, by rw [List.drop_zero], by simp, by simp -implicitDefEqProofs only [ws, ↓reduceIte, Nat.reduceEqDiff, Nat.reduceAdd, Nat.reduceLeDiff], by simp -implicitDefEqProofs only [ws, ↓reduceIte, Nat.reduceEqDiff, Nat.reduceAdd, Nat.reduceLeDiff], by simp -implicitDefEqProofs only [Int.natCast_zero, ws, ↓reduceIte, Nat.reduceEqDiff, Nat.reduceAdd, Nat.reduceLeDiff], by simp -implicitDefEqProofs only [Int.natCast_zero, ws, ↓reduceIte, Nat.reduceEqDiff, Nat.reduceAdd, Nat.reduceLeDiff], rfl⟩
      rintro n fr σ' ⟨j, u, hj, rfl, hg, hu, f0, f4, f5, f6, rfl⟩
      simp -implicitDefEqProofs only [f0, f4, f5, f6, ws, ↓reduceIte, Nat.reduceEqDiff, Nat.reduceAdd, Nat.reduceLeDiff]
      refine chooseK_split (fun h5 => ?_) (fun h5 => ?_) <;> simp -implicitDefEqProofs only [h5, f0, f4, f5, f6, ws, ↓reduceIte, Nat.reduceEqDiff, Nat.reduceAdd, Nat.reduceLeDiff]
      · have hjl : j < s.length := by simp at h5; omega
        rw [digN_step hjl] at hg
        have hb : ((s.getD j 0).toNat : Int) = (bN s j : Int) := rfl
        rw [hb]
        have hb8 := bN_lt s j
        refine ⟨by omega, ?_⟩
        refine chooseK_split (fun h6 => ?_) (fun h6 => ?_) <;> simp -implicitDefEqProofs only [h6, f0, f4, f5, f6, ws, ↓reduceIte, Nat.reduceEqDiff, Nat.reduceAdd, Nat.reduceLeDiff]
        · rw [if_neg (by simp at h6; omega)] at hg
          rw [hg] at h
          exact .inl (h 0)
        rw [hb]
        refine ⟨by omega, ?_⟩
        refine chooseK_split (fun h8 => ?_) (fun h8 => ?_) <;> simp -implicitDefEqProofs only [h8, f0, f4, f5, f6, ws, ↓reduceIte, Nat.reduceEqDiff, Nat.reduceAdd, Nat.reduceLeDiff]
        · rw [if_neg (by simp at h8; omega)] at hg
          rw [hg] at h
          exact .inl (h 0)
        rw [if_pos (by simp at h6 h8; omega)] at hg
        have hp18 : 10 ^ j ≤ 10 ^ 18 := Nat.pow_le_pow_right (by omega) (by omega)
        have h18 : 10 ^ 18 = 1000000000000000000 := by decide
        refine ⟨by omega, ?_⟩
        rw [hb, step64 (by omega) (by simp at h6; omega) (by simp at h8; omega), wrap64 (by omega)]
        exact ⟨s.length - (j + 1), by omega, j + 1, u * 10 + (bN s j - 48), by omega, rfl, hg, by rw [Nat.pow_succ]; simp at h8; omega, by simp -implicitDefEqProofs only [f0, ws, ↓reduceIte, Nat.reduceEqDiff, Nat.reduceAdd, Nat.reduceLeDiff], by simp -implicitDefEqProofs only [f4, ws, ↓reduceIte, Nat.reduceEqDiff, Nat.reduceAdd, Nat.reduceLeDiff], by simp -implicitDefEqProofs only [ws, ↓reduceIte, Nat.reduceEqDiff, Nat.reduceAdd, Nat.reduceLeDiff], by simp -implicitDefEqProofs only [ws, ↓reduceIte, Nat.reduceEqDiff, Nat.reduceAdd, Nat.reduceLeDiff]; rfl, rfl⟩
      · have hj2 : j = s.length := by simp at h5; omega
        rw [List.drop_of_length_le (by omega), digN] at hg
        rw [hg] at h
        have hp19 : 10 ^ j ≤ 10 ^ 19 := Nat.pow_le_pow_right (by omega) (by omega)
        rw [pow19] at hp19
        simp only at h
        refine chooseK_split (fun h9 => ?_) (fun h9 => ?_) <;> simp -implicitDefEqProofs only [h9, f0, f4, f5, f6, ws, ↓reduceIte, Nat.reduceEqDiff, Nat.reduceAdd, Nat.reduceLeDiff]
        · rw [if_pos (by have := of_decide_eq_true h9; omega)] at h
          by_cases hu9 : u ≤ 9223372036854775808
          · rw [if_pos hu9] at h
            rw [neg64 hu9, decide_eq_true (by omega)]
            exact .inl h
          · rw [if_neg hu9] at h
            rw [decide_eq_false (by omega)]
            exact .inl (h _)
        · rw [if_neg (by have := of_decide_eq_false h9; omega)] at h
          by_cases hu9 : u < 9223372036854775808
          · rw [if_pos hu9] at h
            rw [pos64 hu9, decide_eq_true (by omega)]
            exact .inl h
          · rw [if_neg hu9] at h
            rw [decide_eq_false (by omega)]
            exact .inl (h _)
end Go.Proofs.YtgdcdkgmeomhpaaGreatDoor

namespace Go.Proofs.YtgdcdkgmeomhpaaGreatDoor
open Go Go.Vs
set_option maxRecDepth 20000
attribute [local irreducible] chooseK

theorem r11spaces_C {s : List UInt8} {i : Nat} {σ : St} {Q : Out → St → Prop} (hi : i ≤ s.length) (hs : s.length ≤ big) (h : Q (.ret (.int .i64 (skipSp s i : Int))) σ) : C Xc 20 [.str s, .int .i64 (i : Int)] σ Q := by
  unfold big at hs
  refine body cf_r11spaces (Eq.refl true) ?_
  simp -implicitDefEqProofs only [vf_r11spaces, ws, ↓reduceIte, Nat.reduceEqDiff, Nat.reduceAdd, Nat.reduceLeDiff]
  refine LoopP.intro (fun n fr σ' => ∃ j, j ≤ s.length ∧ n = s.length - j ∧ skipSp s j = skipSp s i ∧ fr 0 = .str s ∧ fr 1 = .int .i64 (j : Int) ∧ σ = σ') (s.length - i)
    ⟨i, hi, rfl, rfl, rfl, rfl, rfl⟩ ?_
  rintro n fr σ' ⟨j, hj, rfl, hjs, f0, f1, rfl⟩
  simp -implicitDefEqProofs only [f0, f1, ws, ↓reduceIte, Nat.reduceEqDiff, Nat.reduceAdd, Nat.reduceLeDiff]
  refine chooseK_split (fun g1 => ?_) (fun g1 => ?_) <;> simp -implicitDefEqProofs only [g1, f0, f1, ws, ↓reduceIte, Nat.reduceEqDiff, Nat.reduceAdd, Nat.reduceLeDiff]
  · have hjl : j < s.length := by simp at g1; omega
    have hst := skipSp_step hjl
    refine ⟨by omega, ?_⟩
    refine r01IsSpace_C ?_
    simp -implicitDefEqProofs only [f0, f1, ws, ↓reduceIte, Nat.reduceEqDiff, Nat.reduceAdd, Nat.reduceLeDiff]
    refine chooseK_split (fun g2 => ?_) (fun g2 => ?_) <;> simp -implicitDefEqProofs only [g2, f0, f1, ws, ↓reduceIte, Nat.reduceEqDiff, Nat.reduceAdd, Nat.reduceLeDiff]
    · rw [if_pos g2] at hst
      rw [wrap64 (by omega)]
      exact ⟨s.length - (j + 1), by omega, j + 1, by omega, rfl, by rw [← hjs, hst], f0, rfl, rfl⟩
    · rw [if_neg (by rw [g2]; simp)] at hst
      rw [← hjs, hst] at h
      exact .inl h
  · have : j = s.length := by simp at g1; omega
    subst this
    rw [← hjs, skipSp_end] at h
    exact .inl h

theorem num_or (c : UInt8) : numSet.contains c = ((decide ((c.toNat : Int) ≥ 48) && decide ((c.toNat : Int) ≤ 57)) || ((c.toNat : Int) == 43 || ((c.toNat : Int) == 45 || ((c.toNat : Int) == 46 || ((c.toNat : Int) == 101 || (c.toNat : Int) == 69))))) :=
  eq_of_beq (all_u8 (p := fun c => numSet.contains c == ((decide ((c.toNat : Int) ≥ 48) && decide ((c.toNat : Int) ≤ 57)) || ((c.toNat : Int) == 43 || ((c.toNat : Int) == 45 || ((c.toNat : Int) == 46 || ((c.toNat : Int) == 101 || (c.toNat : Int) == 69)))))) (by kernel_rfl) c)

theorem r11numeric_C {c : UInt8} {σ : St} {Q : Out → St → Prop} (h : Q (.ret (.bool (numSet.contains c))) σ) : C Xc 41 [.int .u8 (c.toNat : Int)] σ Q := by
  rw [num_or] at h
  refine body cf_r11numeric (Eq.refl true) ?_
  simp -implicitDefEqProofs only [vf_r11numeric, ws, ↓reduceIte, Nat.reduceEqDiff, Nat.reduceAdd, Nat.reduceLeDiff]
  repeat' first
    | refine And.intro (by omega) ?_
    | (refine chooseK_split (fun hh => ?_) (fun hh => ?_) <;> simp -implicitDefEqProofs only [hh, ws, ws, ↓reduceIte, Nat.reduceEqDiff, Nat.reduceAdd, Nat.reduceLeDiff])
  all_goals
    refine .inl ?_
    rename_i hh
    simp only [*, Bool.true_and, Bool.false_and, Bool.true_or, Bool.false_or, Bool.or_true] at h
    exact h

def begL : List UInt8 := [110, 116, 102, 34, 45, 48, 49, 50, 51, 52, 53, 54, 55, 56, 57, 91, 123]
theorem beg_has (c : UInt8) : beginsB c = begL.contains c := eq_of_beq (all_u8 (p := fun c => beginsB c == begL.contains c) (by kernel_rfl) c)
theorem r11begins_C {c : UInt8} {σ : St} {Q : Out → St → Prop} (h : Q (.ret (.bool (beginsB c))) σ) : C Xc 37 [.int .u8 (c.toNat : Int)] σ Q := by
  rw [beg_has] at h
  refine body cf_r11begins (Eq.refl true) ?_
  simp -implicitDefEqProofs only [vf_r11begins, ws, ↓reduceIte, Nat.reduceEqDiff, Nat.reduceAdd, Nat.reduceLeDiff]
  have hL : begL.length = 17 := rfl
  refine LoopP.intro (fun n fr σ' => ∃ j, j ≤ 17 ∧ n = 17 - j ∧ (∀ i, i < j → begL.getD i 0 ≠ c) ∧ fr 0 = .int .u8 (c.toNat : Int) ∧ fr 3 = .str begL ∧ fr 4 = .int .i64 (j : Int) ∧ σ = σ') 17
    ⟨0, by omega, rfl, fun i hi => by omega, rfl, rfl, rfl, rfl⟩ ?_
  rintro n fr σ' ⟨j, hj, rfl, hno, f0, f3, f4, rfl⟩
  simp -implicitDefEqProofs only [f0, f3, f4, hL, ws, ↓reduceIte, Nat.reduceEqDiff, Nat.reduceAdd, Nat.reduceLeDiff]
  refine chooseK_split (fun g1 => ?_) (fun g1 => ?_) <;> simp -implicitDefEqProofs only [g1, f0, f3, f4, ws, ↓reduceIte, Nat.reduceEqDiff, Nat.reduceAdd, Nat.reduceLeDiff]
  · have hjl : j < 17 := by simp at g1; omega
    refine ⟨by omega, ?_⟩
    refine chooseK_split (fun g2 => ?_) (fun g2 => ?_) <;> simp -implicitDefEqProofs only [g2, f0, f3, f4, ws, ↓reduceIte, Nat.reduceEqDiff, Nat.reduceAdd, Nat.reduceLeDiff]
    · have : begL.contains c = true := by
        rw [List.contains_iff_mem]
        have e : begL.getD j 0 = c := UInt8.toNat_inj.1 (by have := eq_of_beq g2; omega)
        rw [← e]
        exact getD_mem (by rw [hL]; exact hjl)
      rw [this] at h
      exact .inl h
    · rw [wrap64 (by omega)]
      refine ⟨17 - (j + 1), by omega, j + 1, by omega, rfl, fun i hi e => ?_, f0, f3, rfl, rfl⟩
      by_cases hij : i = j
      · subst hij; rw [e] at g2; simp at g2
      · exact hno i (by omega) e
  · have : begL.contains c = false := by
      rw [← Bool.not_eq_true, List.contains_iff_mem]
      intro hm
      obtain ⟨i, hi, e⟩ := List.getElem_of_mem hm
      have := hno i (by rw [hL] at hi; simp at g1; omega)
      rw [List.getD_eq_getElem?_getD, List.getElem?_eq_getElem hi] at this
      exact this e
    rw [this] at h
    exact .inl h

/-- A result: a value, an offset, an error. -/
def res9 (v : List V) (a e : Int) : V := .agg (v ++ [.int .i64 a, .int .i64 e])
def resV : Res JV → V
  | .ok (v, i) => res9 v.cells (i : Int) 0
  | .error x => res9 zero7 (x.1 : Int) (x.2 : Int)
theorem zero7_clean (k : Nat) : cleanL k zero7 = zero7 := by simp [zero7, cleanL, V.clean, Tk.clean]
theorem zero7_fits (n nm k : Nat) : fitsL n nm k zero7 = true := by simp [zero7, fitsL, V.fits, Tk.fits]
theorem resV_clean (k : Nat) (r : Res JV) : Out.clean k (.ret (resV r)) = .ret (resV r) := by
  cases r with
  | ok r => simp [resV, res9, Out.clean, V.clean, cleanL, cleanL_append, JV.clean]
  | error x => simp [resV, res9, Out.clean, V.clean, cleanL, cleanL_append, zero7_clean]
theorem resV_fits (n nm k : Nat) (r : Res JV) : Out.fits n nm k (.ret (resV r)) = true := by
  cases r with
  | ok r => simp [resV, res9, Out.fits, V.fits, fitsL, fitsL_append, JV.fits]
  | error x => simp [resV, res9, Out.fits, V.fits, fitsL, fitsL_append, zero7_fits]
theorem exitRes {σ : St} (hw : σ.wf) {xo : List (List V)} {xy : List TypeId} {xt : List Nat} {xtt : List TypeId} {Q : Out → St → Prop} {r : Res JV} (h : Q (.ret (resV r)) σ) :
    ExitOk σ Q (.ret (resV r)) ⟨σ.objs ++ xo, σ.maps, σ.toks ++ xt, σ.tys ++ xy, σ.tts ++ xtt⟩ := exitNewT hw (resV_clean _ _) (resV_fits _ _ _ _) h
theorem exitRes0 {σ : St} (hw : σ.wf) {xo : List (List V)} {xy : List TypeId} {Q : Out → St → Prop} {r : Res JV} (h : Q (.ret (resV r)) σ) :
    ExitOk σ Q (.ret (resV r)) ⟨σ.objs ++ xo, σ.maps, σ.toks, σ.tys ++ xy, σ.tts⟩ := exitNew hw (resV_clean _ _) (resV_fits _ _ _ _) h

theorem r11wrong_C {s : List UInt8} {i : Nat} {σ : St} {Q : Out → St → Prop} (hi : i ≤ s.length) (h : Q (.ret (resV (.error (wrongR s i)))) σ) : C Xc 36 [.str s, .int .i64 (i : Int)] σ Q := by
  refine bodyW cf_r11wrong (Eq.refl true) fun hw => ?_
  simp -implicitDefEqProofs only [vf_r11wrong, ob, ws, ↓reduceIte, Nat.reduceEqDiff, Nat.reduceAdd, Nat.reduceLeDiff]
  refine chooseK_split (fun g1 => ?_) (fun g1 => ?_) <;> simp -implicitDefEqProofs only [g1, ob, ws, ↓reduceIte, Nat.reduceEqDiff, Nat.reduceAdd, Nat.reduceLeDiff]
  · have : i = s.length := by simp at g1; omega
    rw [wrongR, if_pos this, this] at h
    exact exitRes0 hw h
  · have : i ≠ s.length := by simp at g1; omega
    rw [wrongR, if_neg this] at h
    exact exitRes0 hw h

def JV.setAt : JV → Int → JV
  | .mk k b n s ni is nm ms _, a => .mk k b n s ni is nm ms a

theorem r11word_C {s name : List UInt8} {i : Nat} {v : JV} {σ : St} {Q : Out → St → Prop} (hi : i < s.length) (hs : s.length ≤ big) (hn : name.length ≤ big) (h : Q (.ret (resV (wordS s i name (v.setAt i)))) σ) :
    C Xc 38 [.str s, .int .i64 (i : Int), .str name, v.enc] σ Q := by
  have hs' := hs
  have hn' := hn
  unfold big at hs' hn'
  unfold wordS at h
  obtain ⟨k, b, n, st, ni, is, nm, ms, a⟩ := v
  refine bodyW cf_r11word (Eq.refl true) fun hw => ?_
  simp -implicitDefEqProofs only [vf_r11word, JV.enc, JV.cells, ob, ws, ↓reduceIte, Nat.reduceEqDiff, Nat.reduceAdd, Nat.reduceLeDiff]
  refine r06Has_C (by omega) hs hn ?_
  simp -implicitDefEqProofs only [ob, ws, ↓reduceIte, Nat.reduceEqDiff, Nat.reduceAdd, Nat.reduceLeDiff]
  refine chooseK_split (fun g1 => ?_) (fun g1 => ?_) <;> simp -implicitDefEqProofs only [g1, ob, ws, ↓reduceIte, Nat.reduceEqDiff, Nat.reduceAdd, Nat.reduceLeDiff]
  · rw [if_pos g1] at h
    rw [wrap64 (by omega)]
    exact exitRes0 hw h
  · rw [if_neg (by rw [g1]; simp)] at h
    refine r11wrong_C (by omega) ?_
    rw [wrongR, if_neg (by omega)]
    simp -implicitDefEqProofs only [resV, res9, zero7, ob, ws, ↓reduceIte, Nat.reduceEqDiff, Nat.reduceAdd, Nat.reduceLeDiff]
    exact exitRes0 hw h
end Go.Proofs.YtgdcdkgmeomhpaaGreatDoor

namespace Go.Proofs.YtgdcdkgmeomhpaaGreatDoor
open Go Go.Vs
set_option maxRecDepth 20000
attribute [local irreducible] chooseK

/-- A key and a colon, at a byte that is no white space. -/
def keyS (s : List UInt8) (j : Nat) (a : List JM) : Except (Nat × Nat) (List UInt8 × Nat) :=
  if byteAt s j ≠ 34 then .error (wrongR s j)
  else if (strP s j).2.2 ≠ 0 then .error ((strP s j).2.1, (strP s j).2.2)
  else if a.any (fun m => m.keyOf == (strP s j).1) then .error (j, 10)
  else if byteAt s (skipSp s (strP s j).2.1) = 58 then .ok ((strP s j).1, skipSp s (strP s j).2.1 + 1)
  else .error (wrongR s (skipSp s (strP s j).2.1))

theorem memS_key (rec : Nat → Res JV) (s : List UInt8) (i : Nat) (a : List JM) : memS rec s i a = match keyS s (skipSp s i) a with
    | .error x => .error x
    | .ok (k, i1) => match rec i1 with
      | .error x => .error x
      | .ok (v, i2) => .ok (.mk k v (skipSp s i), i2) := by
  unfold memS keyS
  by_cases h1 : byteAt s (skipSp s i) ≠ 34
  · rw [if_pos h1, if_pos h1]
  rw [if_neg h1, if_neg h1]
  by_cases h2 : (strP s (skipSp s i)).2.2 ≠ 0
  · rw [if_pos h2, if_pos h2]
  rw [if_neg h2, if_neg h2]
  by_cases h3 : a.any (fun m => m.keyOf == (strP s (skipSp s i)).1) = true
  · rw [if_pos h3, if_pos h3]
  rw [if_neg h3, if_neg h3]
  by_cases h4 : byteAt s (skipSp s (strP s (skipSp s i)).2.1) = 58
  · rw [if_pos h4, if_pos h4]; rfl
  · rw [if_neg h4, if_neg h4]

def keyV : Except (Nat × Nat) (List UInt8 × Nat) → V
  | .ok (k, i) => .tup [.str k, .int .i64 (i : Int), .int .i64 0]
  | .error x => .tup [.str [], .int .i64 (x.1 : Int), .int .i64 (x.2 : Int)]

theorem hasPre1 (s : List UInt8) (i : Nat) (c : UInt8) (hc : c ≠ 0) : hasPre (s.drop i) [c] = decide (byteAt s i = c) := by
  unfold hasPre byteAt
  by_cases h : i < s.length
  · rw [drop_getD 0 h, Bool.eq_iff_iff]
    simp
  · rw [List.drop_of_length_le (by omega), List.getD_eq_getElem?_getD, List.getElem?_eq_none (by omega)]
    simp
    exact fun e => hc e.symm

theorem r11key_C {s : List UInt8} {i : Nat} {c0 c1 c2 c3 c4 c6 : V} {nn : Bool} {tk : Tk} {ms : List JM} {σ : St} {Q : Out → St → Prop} (hi : i ≤ s.length) (hs : s.length ≤ big) (hl : ms.length ≤ big) (h : Q (.ret (keyV (keyS s i ms))) σ) :
    C Xc 55 [.str s, .int .i64 (i : Int), .agg [c0, c1, c2, c3, c4, .slc nn (encMs ms) tk, c6]] σ Q := by
  have hs' := hs
  unfold big at hs' hl
  unfold keyS at h
  refine bodyW cf_r11key (Eq.refl true) fun hw => ?_
  have bad : byteAt s i ≠ 34 → Q (.ret (keyV (.error (wrongR s i)))) σ := fun hb => by rw [if_pos hb] at h; exact h
  have wr : ∀ (j : Nat), wrongR s j = ((wrongR s j).1, (wrongR s j).2) := fun _ => rfl
  simp -implicitDefEqProofs only [vf_r11key, JV.enc, JV.cells, slcE, ob, encMs_len, ws, ↓reduceIte, Nat.reduceEqDiff, Nat.reduceAdd, Nat.reduceLeDiff]
  refine chooseK_split (fun g1 => ?_) (fun g1 => ?_) <;> simp -implicitDefEqProofs only [g1, ob, encMs_len, ws, ↓reduceIte, Nat.reduceEqDiff, Nat.reduceAdd, Nat.reduceLeDiff]
  · refine r11wrong_C hi ?_
    have hb := bad (fun e => by rw [byteAt_end (by simp at g1; omega)] at e; cases e)
    simp -implicitDefEqProofs only [resV, res9, zero7, ob, encMs_len, ws, ↓reduceIte, Nat.reduceEqDiff, Nat.reduceAdd, Nat.reduceLeDiff]
    exact exitNew hw (by rfl) (by rfl) hb
  have hil : i < s.length := by simp at g1; omega
  refine ⟨by omega, ?_⟩
  have hc0 : ((s.getD i 0).toNat : Int) = ((byteAt s i).toNat : Int) := rfl
  refine chooseK_split (fun g2 => ?_) (fun g2 => ?_) <;> simp -implicitDefEqProofs only [g2, ob, encMs_len, ws, ↓reduceIte, Nat.reduceEqDiff, Nat.reduceAdd, Nat.reduceLeDiff]
  · refine r11wrong_C hi ?_
    have hb := bad (fun e => by rw [hc0, e] at g2; cases g2)
    simp -implicitDefEqProofs only [resV, res9, zero7, ob, encMs_len, ws, ↓reduceIte, Nat.reduceEqDiff, Nat.reduceAdd, Nat.reduceLeDiff]
    exact exitNew hw (by rfl) (by rfl) hb
  have h34 : byteAt s i = 34 := UInt8.toNat_inj.1 (by rw [hc0] at g2; simp at g2; show _ = 34; omega)
  rw [if_neg (fun e => e h34)] at h
  clear bad
  have hsp := strP_le hi
  refine r10Parse_C hi hs ?_
  generalize strP s i = r at h hsp ⊢
  obtain ⟨key, to, e⟩ := r
  dsimp only at h hsp ⊢
  simp -implicitDefEqProofs only [ob, encMs_len, ws, ↓reduceIte, Nat.reduceEqDiff, Nat.reduceAdd, Nat.reduceLeDiff]
  refine chooseK_split (fun g3 => ?_) (fun g3 => ?_) <;> simp -implicitDefEqProofs only [g3, ob, encMs_len, ws, ↓reduceIte, Nat.reduceEqDiff, Nat.reduceAdd, Nat.reduceLeDiff]
  · rw [if_pos (by simp at g3; omega)] at h
    exact exitNew hw (by rfl) (by rfl) h
  have he : e = 0 := by simp at g3; omega
  rw [if_neg (by omega)] at h
  have hto := hsp.2 he
  refine LoopP.intro (fun n' fr σ' => ∃ (j : Nat), j ≤ ms.length ∧ n' = ms.length - j ∧ (∀ i, i < j → ((ms.getD i jmnull).keyOf == key) = false) ∧ fr 0 = .str s ∧ fr 1 = .int .i64 (i : Int) ∧ fr 5 = .ref (some (σ.objs.length, 0)) ∧ fr 10 = .str key ∧ fr 11 = .int .i64 (to : Int) ∧
      fr 13 = .int .i64 (j : Int) ∧ σ' = ⟨σ.objs ++ [[c0, c1, c2, c3, c4, .slc nn (encMs ms) tk, c6]], σ.maps, σ.toks, σ.tys ++ [26], σ.tts⟩) ms.length ?_ ?_
  · exact ⟨0, by omega, by omega, fun i hi => by omega, rfl, rfl, rfl, rfl, rfl, rfl, rfl⟩
  rintro n' fr σ' ⟨j, hj, rfl, hno, f0, f1, f5, f10, f11, f13, rfl⟩
  simp -implicitDefEqProofs only [f0, f1, f5, f10, f11, f13, ob, encMs_len, slcE, ws, ↓reduceIte, Nat.reduceEqDiff, Nat.reduceAdd, Nat.reduceLeDiff]
  refine chooseK_split (fun g4 => ?_) (fun g4 => ?_) <;> simp -implicitDefEqProofs only [g4, f0, f1, f5, f10, f11, f13, ob, encMs_len, slcE, ws, ↓reduceIte, Nat.reduceEqDiff, Nat.reduceAdd, Nat.reduceLeDiff]
  · have hjl : j < ms.length := by simp at g4; omega
    refine ⟨by omega, encMs_cells ms, ?_⟩
    rw [encMs_get ms j hjl, show ms.getD j (.mk [] (jv 0 false 0 [] [] [] 0) 0) = ms.getD j jmnull from rfl]
    have hm := getD_mem (d := jmnull) hjl
    generalize hmj : ms.getD j jmnull = mj at *
    obtain ⟨kk, vv, aa⟩ := mj
    simp -implicitDefEqProofs only [JM.enc, JM.cells, f0, f1, f5, f10, f11, f13, ob, encMs_len, slcE, ws, ↓reduceIte, Nat.reduceEqDiff, Nat.reduceAdd, Nat.reduceLeDiff]
    refine chooseK_split (fun g5 => ?_) (fun g5 => ?_) <;> simp -implicitDefEqProofs only [g5, f0, f1, f5, f10, f11, f13, ob, encMs_len, slcE, ws, ↓reduceIte, Nat.reduceEqDiff, Nat.reduceAdd, Nat.reduceLeDiff]
    · have : ms.any (fun m => m.keyOf == key) = true := List.any_eq_true.2 ⟨_, hm, by simpa [JM.keyOf] using g5⟩
      rw [if_pos this] at h
      exact exitNew hw (by rfl) (by rfl) h
    · rw [wrap64 (by omega)]
      refine ⟨ms.length - (j + 1), by omega, j + 1, by omega, rfl, fun i hi => ?_, f0, f1, f5, f10, f11, rfl, rfl⟩
      by_cases e : i = j
      · subst e; rw [hmj]; exact g5
      · exact hno i (by omega)
  have hj2 : j = ms.length := by simp at g4; omega
  have hany : ms.any (fun m => m.keyOf == key) = false := by
    rw [List.any_eq_false]
    intro m hm
    obtain ⟨i, hi, rfl⟩ := List.getElem_of_mem hm
    have := hno i (by omega)
    rw [List.getD_eq_getElem?_getD, List.getElem?_eq_getElem hi] at this
    simpa using this
  rw [hany, if_neg (by simp)] at h
  refine r11spaces_C hsp.1 hs ?_
  have hle := skipSp_le hsp.1
  simp -implicitDefEqProofs only [f0, f1, f5, f10, f11, f13, ob, encMs_len, slcE, ws, ↓reduceIte, Nat.reduceEqDiff, Nat.reduceAdd, Nat.reduceLeDiff]
  refine r06Has_C hle hs (by decide) ?_
  rw [hasPre1 _ _ _ (by decide)]
  by_cases h58 : byteAt s (skipSp s to) = 58
  · rw [if_pos h58] at h
    rw [decide_eq_true h58]
    simp -implicitDefEqProofs only [f0, f1, f5, f10, f11, f13, ob, encMs_len, slcE, ws, ↓reduceIte, Nat.reduceEqDiff, Nat.reduceAdd, Nat.reduceLeDiff]
    rw [wrap64 (by omega)]
    exact exitNew hw (by rfl) (by rfl) h
  · rw [if_neg h58] at h
    rw [decide_eq_false h58]
    simp -implicitDefEqProofs only [f0, f1, f5, f10, f11, f13, ob, encMs_len, slcE, ws, ↓reduceIte, Nat.reduceEqDiff, Nat.reduceAdd, Nat.reduceLeDiff]
    refine r11wrong_C hle ?_
    simp -implicitDefEqProofs only [resV, res9, zero7, f0, f1, f5, f10, f11, f13, ob, encMs_len, slcE, ws, ↓reduceIte, Nat.reduceEqDiff, Nat.reduceAdd, Nat.reduceLeDiff]
    exact exitNew hw (by rfl) (by rfl) h
end Go.Proofs.YtgdcdkgmeomhpaaGreatDoor

namespace Go.Proofs.YtgdcdkgmeomhpaaGreatDoor
open Go Go.Vs
set_option maxRecDepth 20000
attribute [local irreducible] chooseK

/-- What a slice that was begun anew is, and in which store. -/
def Fresh (e : TypeId) (σ : St) (ys : List V) (x : V) (σ' : St) : Prop :=
  (ys = [] ∧ x = .slc true [] .full ∧ σ' = σ) ∨ (ys ≠ [] ∧ x = .slc true ys (.own σ.toks.length) ∧ σ' = { σ with toks := σ.toks ++ [ys.length], tts := σ.tts ++ [e] })

theorem vapp_clone {e : TypeId} {sz : Nat} {σ : St} {ys : List V} {K : V → St → Prop} (hy : ∀ y ∈ ys, y.cells.length = sz ∧ y.notTup = true) (hl : ys.length ≤ big) (h : ∀ x σ', Fresh e σ ys x σ' → K x σ') : vapp e sz σ (.slc true [] .full) ys K := by
  refine ⟨hy, ?_⟩
  change _ ∧ _ ∧ _
  refine ⟨fun z hz => (by cases hz), by simpa using hl, ?_⟩
  split
  · rename_i h0; exact h _ _ (.inl ⟨h0, rfl, rfl⟩)
  · rename_i h0; exact h _ _ (.inr ⟨h0, by simp, by simp⟩)
theorem vapp_fresh {e : TypeId} {sz : Nat} {σ σ' : St} {ys : List V} {x v : V} {K : V → St → Prop} (hF : Fresh e σ ys x σ') (hw : σ.tts.length = σ.toks.length) (hy : ∀ y ∈ ys, y.cells.length = sz) (hv : v.cells.length = sz) (hv2 : v.notTup = true) (hl : ys.length + 1 ≤ big)
    (h : K (.slc true (ys ++ [v]) (.own σ.toks.length)) { σ with toks := σ.toks ++ [ys.length + 1], tts := σ.tts ++ [e] }) : vapp e sz σ' x [v] K := by
  rcases hF with ⟨rfl, rfl, rfl⟩ | ⟨h0, rfl, rfl⟩
  · refine ⟨fun z hz => by rw [List.mem_singleton.1 hz]; exact ⟨hv, hv2⟩, ?_⟩
    change _ ∧ _ ∧ _
    refine ⟨fun z hz => (by cases hz), by simp [big], ?_⟩
    rw [if_neg (by simp)]
    simpa using h
  · refine ⟨fun z hz => by rw [List.mem_singleton.1 hz]; exact ⟨hv, hv2⟩, hy, h0, hl, by simp, by simp [← hw], ?_⟩
    simpa [List.set_append_right] using h
theorem Fresh.objs {e : TypeId} {σ σ' : St} {ys : List V} {x : V} (hF : Fresh e σ ys x σ') : σ'.objs = σ.objs := by
  rcases hF with ⟨_, _, rfl⟩ | ⟨_, _, rfl⟩ <;> rfl

/-- An error has a number. -/
def ErrR {α : Type} (s : List UInt8) (rec : Nat → Res α) : Prop := ∀ i x, i ≤ s.length → rec i = .error x → x.2 ≠ 0
theorem wrongR_ne (s : List UInt8) (i : Nat) : (wrongR s i).2 ≠ 0 := by
  unfold wrongR
  dsimp only
  split <;> decide
theorem loopS_err {α : Type} {s : List UInt8} {e : UInt8} (he : e ≠ 0) {step : Nat → α → Res α} (hst : ∀ i a a' i1, i ≤ s.length → step i a = .ok (a', i1) → i ≤ i1 ∧ i1 ≤ s.length)
    (hse : ∀ i a x, i ≤ s.length → step i a = .error x → x.2 ≠ 0) : ∀ (n i : Nat) (a : α) (x : Nat × Nat), i ≤ s.length → s.length < i + n → loopS step s e n i a = .error x → x.2 ≠ 0
  | 0, i, a, x, h1, h2, _ => by omega
  | n + 1, i, a, x, h1, h2, h => by
    rw [loopS] at h
    cases hs : step i a with
    | error y => rw [hs] at h; cases h; exact hse i a _ h1 hs
    | ok r =>
      obtain ⟨a', i1⟩ := r
      rw [hs] at h
      have hp := hst i a a' i1 h1 hs
      have hl := skipSp_le hp.2
      have hg := skipSp_ge s i1
      simp only at h
      split at h
      · cases h
      split at h
      · rename_i hc
        have := byteAt_lt (by decide) hc
        exact loopS_err he hst hse n _ a' x (by omega) (by omega) h
      · cases h; exact wrongR_ne _ _
theorem elemS_err {α : Type} {s : List UInt8} {e : UInt8} (he : e ≠ 0) {step : Nat → α → Res α} (hst : ∀ i a a' i1, i ≤ s.length → step i a = .ok (a', i1) → i ≤ i1 ∧ i1 ≤ s.length)
    (hse : ∀ i a x, i ≤ s.length → step i a = .error x → x.2 ≠ 0) {i : Nat} {a : α} {x : Nat × Nat} (hi : i < s.length) (h : elemS step s e i a = .error x) : x.2 ≠ 0 := by
  have hl := skipSp_le (s := s) (i := i + 1) (by omega)
  unfold elemS at h
  split at h
  · cases h
  · exact loopS_err he hst hse _ _ a x hl (by omega) h
theorem arrStep_err {s : List UInt8} {rec : Nat → Res JV} (h : ErrR s rec) : ∀ i a x, i ≤ s.length → arrStep rec i a = .error x → x.2 ≠ 0 := by
  intro i a x hi hs
  unfold arrStep at hs
  cases hr : rec i with
  | error y => rw [hr] at hs; cases hs; exact h i _ hi hr
  | ok r => rw [hr] at hs; cases hs
theorem keyS_err {s : List UInt8} {j : Nat} {a : List JM} {x : Nat × Nat} (h : keyS s j a = .error x) : x.2 ≠ 0 := by
  unfold keyS at h
  split at h
  · cases h; exact wrongR_ne _ _
  split at h
  · rename_i h2; cases h; exact h2
  split at h
  · cases h; simp
  split at h
  · cases h
  · cases h; exact wrongR_ne _ _
theorem keyS_le {s : List UInt8} {j i1 : Nat} {a : List JM} {k : List UInt8} (hj : j ≤ s.length) (h : keyS s j a = .ok (k, i1)) : j < i1 ∧ i1 ≤ s.length := by
  unfold keyS at h
  split at h
  · cases h
  split at h
  · cases h
  rename_i h0
  have h0 : (strP s j).2.2 = 0 := Classical.byContradiction h0
  split at h
  · cases h
  split at h
  · rename_i h1
    have hs := strP_le hj
    have := hs.2 h0
    have := skipSp_ge s (strP s j).2.1
    have := byteAt_lt (by decide) h1
    cases h
    omega
  · cases h
theorem objStep_err {s : List UInt8} {rec : Nat → Res JV} (h : ErrR s rec) : ∀ i a x, i ≤ s.length → objStep rec s i a = .error x → x.2 ≠ 0 := by
  intro i a x hi hs
  unfold objStep at hs
  rw [memS_key] at hs
  have hle := skipSp_le hi
  cases hk : keyS s (skipSp s i) a with
  | error y => rw [hk] at hs; cases hs; exact keyS_err hk
  | ok r =>
    obtain ⟨k, i1⟩ := r
    rw [hk] at hs
    simp only at hs
    have := keyS_le hle hk
    cases hr : rec i1 with
    | error y => rw [hr] at hs; cases hs; exact h i1 _ this.2 hr
    | ok r => rw [hr] at hs; cases hs
theorem valueF_err {lim : Bool} {rec : Nat → Res JV} {s : List UInt8} (hp : ProgR s rec) (h : lim = false → ErrR s rec) : ErrR s (valueF lim rec s) := by
  intro i x hi hv
  have hl := skipSp_le hi
  unfold valueF at hv
  dsimp only at hv
  split at hv
  · cases hv; simp
  rename_i hlim
  split at hv
  · unfold wordS at hv; split at hv <;> cases hv; simp
  split at hv
  · unfold wordS at hv; split at hv <;> cases hv; simp
  split at hv
  · unfold wordS at hv; split at hv <;> cases hv; simp
  split at hv
  · split at hv
    · cases hv
    · rename_i h0; cases hv; exact h0
  split at hv
  · split at hv <;> cases hv; simp
  have hlf : (byteAt s (skipSp s i) = 91 ∨ byteAt s (skipSp s i) = 123) → lim = false := fun hc => by
    cases hlm : lim with
    | false => rfl
    | true =>
      rw [hlm] at hlim
      rcases hc with hc | hc <;> (rw [hc] at hlim; exact absurd (by decide) hlim)
  split at hv
  · rename_i hb
    have hlt := byteAt_lt (by decide) hb
    split at hv
    · cases hv
    · rename_i y he
      cases hv
      exact elemS_err (by decide) (arrStep_prog hp) (arrStep_err (h (hlf (.inl hb)))) hlt he
  split at hv
  · rename_i hb
    have hlt := byteAt_lt (by decide) hb
    split at hv
    · cases hv
    · rename_i y he
      cases hv
      exact elemS_err (by decide) (objStep_prog hp) (objStep_err (h (hlf (.inr hb)))) hlt he
  · cases hv; exact wrongR_ne _ _
theorem valueS_err (s : List UInt8) : ∀ k, ErrR s (valueS k s)
  | 0 => valueF_err (lim := true) (rec := fun _ => .error (0, 0)) (fun _ _ _ _ h => by cases h) (fun h => by cases h)
  | k + 1 => valueF_err (lim := false) (valueS_prog s k) (fun _ => valueS_err s k)
theorem valueS_skip (s : List UInt8) (i : Nat) : ∀ k, valueS k s (skipSp s i) = valueS k s i
  | 0 => by rw [valueS, valueS, valueF, valueF, skipSp_idem]
  | k + 1 => by rw [valueS, valueS, valueF, valueF, skipSp_idem]

theorem drop8r (v : JV) (a b : V) : List.drop 8 (v.cells ++ [a, b]) = [b] := by
  rw [show (8 : Nat) = 7 + 1 from rfl, ← List.drop_drop, drop7a]; rfl

theorem drop8s (v : JV) (a : V) : List.drop 8 (v.cells ++ [a]) = [] := List.drop_of_length_le (by simp [JV.len])

/-- The contract of the reference's 'value', at a depth. -/
def ValR (s : List UInt8) (d : Nat) (rec : Nat → Res JV) : Prop :=
  ∀ (i : Nat) (σ : St) (Q : Out → St → Prop), i ≤ s.length → Q (.ret (resV (rec i))) σ → C Xc 19 [.str s, .int .i64 (i : Int), .int .i64 (d : Int)] σ Q

def zero9 : List V := [.int .i64 0, .bool false, .int .i64 0, .str [], .slc false [] .no, .slc false [] .no, .int .i64 0, .int .i64 0, .int .i64 0]
theorem take9r (v : JV) (a b : V) : List.take 9 (v.cells ++ [a, b]) = v.cells ++ [a, b] := List.take_of_length_le (by simp [JV.len])
theorem encL_ct (l : List JV) : ∀ y ∈ encL l, y.cells.length = 7 ∧ y.notTup = true := by
  induction l with
  | nil => intro y hy; cases hy
  | cons m r ih =>
    intro y hy
    simp only [encL, List.mem_cons] at hy
    rcases hy with rfl | hy
    · exact ⟨JV.len m, rfl⟩
    · exact ih y hy
theorem encMs_ct (l : List JM) : ∀ y ∈ encMs l, y.cells.length = 9 ∧ y.notTup = true := by
  induction l with
  | nil => intro y hy; cases hy
  | cons m r ih =>
    intro y hy
    simp only [encMs, List.mem_cons] at hy
    rcases hy with rfl | hy
    · exact ⟨JM.len m, rfl⟩
    · exact ih y hy

theorem arr_C {s : List UInt8} {d : Nat} {rec : Nat → Res JV} (hs : s.length ≤ big) (hd : d ≤ 200) (hrec : ValR s (d + 1) rec) (hprog : ProgR s rec) (herr : ErrR s rec) (hsk : ∀ i, rec (skipSp s i) = rec i) {i : Nat} (hi : i < s.length) (h91 : bN s i = 91) {σ : St} {Q : Out → St → Prop}
    (h : Q (.ret (resV (match elemS (arrStep rec) s 93 i [] with | .ok (is, i1) => .ok (jv 4 false 0 [] is [] i, i1) | .error x => .error x))) σ) :
    C Xc 40 [.str s, .int .i64 (i : Int), .int .i64 (d : Int)] σ Q := by
  have hs' := hs
  unfold big at hs'
  refine bodyW cf_r11list (Eq.refl true) fun hw => ?_
  have hc0 : ((s.getD i 0).toNat : Int) = 91 := by show (bN s i : Int) = 91; omega
  have e0 : ((91 : Int) == 123) = false := rfl
  simp -implicitDefEqProofs only [vf_r11list, hc0, e0, ob, ws, ↓reduceIte, Nat.reduceEqDiff, Nat.reduceAdd, Nat.reduceLeDiff]
  refine ⟨by omega, ?_⟩
  rw [wrap64 (by omega), show (i : Int) + 1 = ((i + 1 : Nat) : Int) by omega]
  refine r11spaces_C (by omega) hs ?_
  have hle := skipSp_le (s := s) (i := i + 1) (by omega)
  simp -implicitDefEqProofs only [ob, ws, ↓reduceIte, Nat.reduceEqDiff, Nat.reduceAdd, Nat.reduceLeDiff]
  refine r06Has_C hle hs (by decide) ?_
  rw [hasPre1 _ _ _ (by decide)]
  unfold elemS at h
  by_cases h93 : byteAt s (skipSp s (i + 1)) = 93
  · rw [if_pos h93] at h
    rw [decide_eq_true h93]
    simp -implicitDefEqProofs only [ob, ws, ↓reduceIte, Nat.reduceEqDiff, Nat.reduceAdd, Nat.reduceLeDiff]
    rw [wrap64 (by omega)]
    exact exitRes0 hw h
  rw [if_neg h93] at h
  rw [decide_eq_false h93]
  simp -implicitDefEqProofs only [ob, ws, ↓reduceIte, Nat.reduceEqDiff, Nat.reduceAdd, Nat.reduceLeDiff]
  refine LoopP.intro (fun n fr σ' => ∃ (j : Nat) (a : List JV) (tk : Tk) (X : List (List V)) (Y U : List TypeId) (T : List Nat), j ≤ s.length ∧ s.length < j + n ∧ a.length + 1 ≤ j ∧ U.length = T.length ∧ Q (.ret (resV (match loopS (arrStep rec) s 93 n j a with | .ok (is, i1) => .ok (jv 4 false 0 [] is [] i, i1) | .error x => .error x))) σ ∧
      fr 0 = .str s ∧ fr 2 = .int .i64 (d : Int) ∧ fr 6 = .ref (some (σ.objs.length, 0)) ∧ fr 7 = .ref (some (σ.objs.length + 1, 0)) ∧ fr 8 = .str [93] ∧ fr 9 = .int .i64 (j : Int) ∧
      σ' = ⟨σ.objs ++ (zero9 :: [.int .i64 4, .bool false, .int .i64 0, .str [], .slc (!a.isEmpty) (encL a) tk, .slc false [] .no, .int .i64 (i : Int)] :: X), σ.maps, σ.toks ++ T, σ.tys ++ Y, σ.tts ++ U⟩) (s.length + 1 - skipSp s (i + 1))
    ⟨skipSp s (i + 1), [], .no, [], [53, 26], [], [], hle, by omega, by have := skipSp_ge s (i + 1); simp; omega, rfl, h, rfl, rfl, rfl, rfl, rfl, rfl, by simp [zero9, encL]⟩ ?_
  clear h
  rintro n fr σ' ⟨j, a, tk, X, Y, U, T, hj, hjn, haj, hUT, h, f0, f2, f6, f7, f8, f9, rfl⟩
  obtain ⟨n, rfl⟩ : ∃ m, n = m + 1 := ⟨n - 1, by omega⟩
  rw [loopS] at h
  have hlj := skipSp_le hj
  have e45 : ((4 : Int) == 5) = false := rfl
  simp -implicitDefEqProofs only [f0, f2, f6, f7, f8, f9, ob, ws, ↓reduceIte, Nat.reduceEqDiff, Nat.reduceAdd, Nat.reduceLeDiff]
  refine r11spaces_C hj hs ?_
  simp -implicitDefEqProofs only [f0, f2, f6, f7, f8, f9, ob, e45, ws, ↓reduceIte, Nat.reduceEqDiff, Nat.reduceAdd, Nat.reduceLeDiff]
  rw [wrap64 (by omega), show (d : Int) + 1 = ((d + 1 : Nat) : Int) by omega]
  refine hrec (skipSp s j) _ _ hlj ?_
  rw [hsk]
  unfold arrStep at h
  cases hr : rec j with
  | error x =>
    rw [hr] at h
    have he : ((x.2 : Int) != 0) = true := by
      have := herr j x hj hr
      simpa using this
    simp -implicitDefEqProofs only [resV, res9, zero7, zero9, he, f0, f2, f6, f7, f8, f9, ob, ws, ↓reduceIte, Nat.reduceEqDiff, Nat.reduceAdd, Nat.reduceLeDiff]
    exact exitRes hw h
  | ok r =>
    obtain ⟨v, i1⟩ := r
    rw [hr] at h
    simp only at h
    have hp := hprog j v i1 hj hr
    have hl1 := skipSp_le hp.2
    have hg1 := skipSp_ge s i1
    have e00 : ((0 : Int) != 0) = false := rfl
    have e0' : (([] : List V).length = 0) := rfl
    simp -implicitDefEqProofs only [resV, res9, take9r, JV.len, take7a, take7, drop7a, drop8r, f0, f2, f6, f7, f8, f9, ob, e00, e45, ws, ↓reduceIte, Nat.reduceEqDiff, Nat.reduceAdd, Nat.reduceLeDiff]
    refine ⟨fun x hx => (by cases hx), fun x hx => (by rw [List.mem_singleton.1 hx]; exact ⟨JV.len v, rfl⟩), vapp_clone (encL_ct a) (by rw [encL_len]; unfold big; omega) fun x2 σ2 hF => ?_⟩
    have hO := hF.objs
    obtain ⟨O2, M2, T2, Y2, U2⟩ := σ2
    simp only at hO
    subst hO
    simp -implicitDefEqProofs only [take9r, JV.len, take7a, take7, drop7a, drop8r, f0, f2, f6, f7, f8, f9, ob, ws, ↓reduceIte, Nat.reduceEqDiff, Nat.reduceAdd, Nat.reduceLeDiff]
    refine ⟨fun x hx => (by rw [List.mem_singleton.1 hx]; exact ⟨JV.len v, rfl⟩), vapp_fresh hF (by simp [hw.2, hUT]) (encL_cells a) (JV.len v) rfl (by rw [encL_len]; unfold big; omega) ?_⟩
    clear hF
    simp -implicitDefEqProofs only [f0, f2, f6, f7, f8, f9, ob, take9r, JV.len, take7a, take7, drop7a, drop8r, ws, ↓reduceIte, Nat.reduceEqDiff, Nat.reduceAdd, Nat.reduceLeDiff]
    refine r11spaces_C hp.2 hs ?_
    simp -implicitDefEqProofs only [f0, f2, f6, f7, f8, f9, ob, take9r, JV.len, take7a, take7, drop7a, drop8r, ws, ↓reduceIte, Nat.reduceEqDiff, Nat.reduceAdd, Nat.reduceLeDiff]
    refine r06Has_C hl1 hs (by decide) ?_
    rw [hasPre1 _ _ _ (by decide)]
    have hsn : ∀ tk, V.slc true (encL a ++ [.agg v.cells]) tk = V.slc (!(a ++ [v]).isEmpty) (encL (a ++ [v])) tk := fun tk => by
      rw [encL_snoc]; simp
    by_cases h93' : byteAt s (skipSp s i1) = 93
    · rw [if_pos h93'] at h
      rw [decide_eq_true h93']
      simp -implicitDefEqProofs only [f0, f2, f6, f7, f8, f9, ob, take9r, JV.len, take7a, take7, drop7a, drop8r, zero9, ws, ↓reduceIte, Nat.reduceEqDiff, Nat.reduceAdd, Nat.reduceLeDiff]
      rw [wrap64 (by omega)]
      refine exitNewT (out' := .ret (resV (.ok (jv 4 false 0 [] (a ++ [v]) [] i, skipSp s i1 + 1)))) hw ?_ (resV_fits _ _ _ _) h
      have hcl : cleanL σ.toks.length (encL a ++ [.agg v.cells]) = encL a ++ [.agg v.cells] := by rw [← encL_snoc]; exact encL_clean _ _
      simp only [Out.clean, V.clean, cleanL, hcl, Tk.clean, if_neg (show ¬ (σ.toks.length + T.length < σ.toks.length) by omega)]
      simp [resV, res9, jv, JV.cells, slcE, encL_snoc, encMs, Tk.clean]
    rw [if_neg h93'] at h
    rw [decide_eq_false h93']
    simp -implicitDefEqProofs only [f0, f2, f6, f7, f8, f9, ob, take9r, JV.len, take7a, take7, drop7a, drop8r, ws, ↓reduceIte, Nat.reduceEqDiff, Nat.reduceAdd, Nat.reduceLeDiff]
    refine r06Has_C hl1 hs (by decide) ?_
    rw [hasPre1 _ _ _ (by decide)]
    by_cases h44 : byteAt s (skipSp s i1) = 44
    · rw [if_pos h44] at h
      rw [decide_eq_true h44]
      have := byteAt_lt (by decide) h44
      simp -implicitDefEqProofs only [f0, f2, f6, f7, f8, f9, ob, take9r, JV.len, take7a, take7, drop7a, drop8r, ws, ↓reduceIte, Nat.reduceEqDiff, Nat.reduceAdd, Nat.reduceLeDiff]
      rw [wrap64 (by omega)]
      refine ⟨n, by omega, skipSp s i1 + 1, a ++ [v], .own (σ.toks.length + T.length), X ++ [v.cells ++ [.int .i64 (i1 : Int), .int .i64 0]], Y ++ [53], U ++ [26], T ++ [(encL a).length + 1], by omega, by omega, ?_, ?_, h, f0, f2, f6, f7, f8, rfl, ?_⟩
      · rw [List.length_append]; simp; omega
      · simp [hUT]
      · rw [← hsn]
    · rw [if_neg h44] at h
      rw [decide_eq_false h44]
      simp -implicitDefEqProofs only [f0, f2, f6, f7, f8, f9, ob, take9r, JV.len, take7a, take7, drop7a, drop8r, ws, ↓reduceIte, Nat.reduceEqDiff, Nat.reduceAdd, Nat.reduceLeDiff]
      refine r11wrong_C hl1 ?_
      simp -implicitDefEqProofs only [resV, res9, zero7, zero9, f0, f2, f6, f7, f8, f9, ob, take9r, JV.len, take7a, take7, drop7a, drop8r, ws, ↓reduceIte, Nat.reduceEqDiff, Nat.reduceAdd, Nat.reduceLeDiff]
      exact exitRes hw h
end Go.Proofs.YtgdcdkgmeomhpaaGreatDoor

namespace Go.Proofs.YtgdcdkgmeomhpaaGreatDoor
open Go Go.Vs
set_option maxRecDepth 20000
attribute [local irreducible] chooseK

theorem obj_C {s : List UInt8} {d : Nat} {rec : Nat → Res JV} (hs : s.length ≤ big) (hd : d ≤ 200) (hrec : ValR s (d + 1) rec) (hprog : ProgR s rec) (herr : ErrR s rec) (hsk : ∀ i, rec (skipSp s i) = rec i) {i : Nat} (hi : i < s.length) (h123 : bN s i = 123) {σ : St} {Q : Out → St → Prop}
    (h : Q (.ret (resV (match elemS (objStep rec s) s 125 i [] with | .ok (is, i1) => .ok (jv 5 false 0 [] [] is i, i1) | .error x => .error x))) σ) :
    C Xc 40 [.str s, .int .i64 (i : Int), .int .i64 (d : Int)] σ Q := by
  have hs' := hs
  unfold big at hs'
  refine bodyW cf_r11list (Eq.refl true) fun hw => ?_
  have hc0 : ((s.getD i 0).toNat : Int) = 123 := by show (bN s i : Int) = 123; omega
  have e0 : ((123 : Int) == 123) = true := rfl
  simp -implicitDefEqProofs only [vf_r11list, hc0, e0, ob, ws, ↓reduceIte, Nat.reduceEqDiff, Nat.reduceAdd, Nat.reduceLeDiff]
  refine ⟨by omega, ?_⟩
  rw [wrap64 (by omega), show (i : Int) + 1 = ((i + 1 : Nat) : Int) by omega]
  refine r11spaces_C (by omega) hs ?_
  have hle := skipSp_le (s := s) (i := i + 1) (by omega)
  simp -implicitDefEqProofs only [ob, ws, ↓reduceIte, Nat.reduceEqDiff, Nat.reduceAdd, Nat.reduceLeDiff]
  refine r06Has_C hle hs (by decide) ?_
  rw [hasPre1 _ _ _ (by decide)]
  unfold elemS at h
  by_cases hE : byteAt s (skipSp s (i + 1)) = 125
  · rw [if_pos hE] at h
    rw [decide_eq_true hE]
    simp -implicitDefEqProofs only [ob, ws, ↓reduceIte, Nat.reduceEqDiff, Nat.reduceAdd, Nat.reduceLeDiff]
    rw [wrap64 (by omega)]
    exact exitRes0 hw h
  rw [if_neg hE] at h
  rw [decide_eq_false hE]
  simp -implicitDefEqProofs only [ob, ws, ↓reduceIte, Nat.reduceEqDiff, Nat.reduceAdd, Nat.reduceLeDiff]
  refine LoopP.intro (fun n fr σ' => ∃ (j : Nat) (a : List JM) (tk : Tk) (X : List (List V)) (Y U : List TypeId) (T : List Nat), j ≤ s.length ∧ s.length < j + n ∧ a.length + 1 ≤ j ∧ U.length = T.length ∧ Q (.ret (resV (match loopS (objStep rec s) s 125 n j a with | .ok (is, i1) => .ok (jv 5 false 0 [] [] is i, i1) | .error x => .error x))) σ ∧
      fr 0 = .str s ∧ fr 2 = .int .i64 (d : Int) ∧ fr 6 = .ref (some (σ.objs.length, 0)) ∧ fr 7 = .ref (some (σ.objs.length + 1, 0)) ∧ fr 8 = .str [125] ∧ fr 9 = .int .i64 (j : Int) ∧
      σ' = ⟨σ.objs ++ (zero9 :: [.int .i64 5, .bool false, .int .i64 0, .str [], .slc false [] .no, .slc (!a.isEmpty) (encMs a) tk, .int .i64 (i : Int)] :: X), σ.maps, σ.toks ++ T, σ.tys ++ Y, σ.tts ++ U⟩) (s.length + 1 - skipSp s (i + 1))
    ⟨skipSp s (i + 1), [], .no, [], [53, 26], [], [], hle, by omega, by have := skipSp_ge s (i + 1); simp; omega, rfl, h, rfl, rfl, rfl, rfl, rfl, rfl, by simp [zero9, encMs]⟩ ?_
  clear h
  rintro n fr σ' ⟨j, a, tk, X, Y, U, T, hj, hjn, haj, hUT, h, f0, f2, f6, f7, f8, f9, rfl⟩
  obtain ⟨n, rfl⟩ : ∃ m, n = m + 1 := ⟨n - 1, by omega⟩
  rw [loopS] at h
  have hlj := skipSp_le hj
  have e55 : ((5 : Int) == 5) = true := rfl
  simp -implicitDefEqProofs only [f0, f2, f6, f7, f8, f9, ob, ws, ↓reduceIte, Nat.reduceEqDiff, Nat.reduceAdd, Nat.reduceLeDiff]
  refine r11spaces_C hj hs ?_
  simp -implicitDefEqProofs only [f0, f2, f6, f7, f8, f9, ob, e55, ws, ↓reduceIte, Nat.reduceEqDiff, Nat.reduceAdd, Nat.reduceLeDiff]
  refine r11key_C hlj hs (by omega) ?_
  unfold objStep at h
  rw [memS_key] at h
  have hke : ∀ x, keyS s (skipSp s j) a = .error x → ((x.2 : Int) != 0) = true := fun x hx => by
    have := keyS_err hx
    simpa using this
  have hkl : ∀ k i1, keyS s (skipSp s j) a = .ok (k, i1) → _ := fun k i1 hk => keyS_le hlj hk
  cases hk : keyS s (skipSp s j) a with
  | error x =>
    rw [hk] at h
    simp only at h
    have he := hke x hk
    simp -implicitDefEqProofs only [keyV, he, zero9, f0, f2, f6, f7, f8, f9, ob, ws, ↓reduceIte, Nat.reduceEqDiff, Nat.reduceAdd, Nat.reduceLeDiff]
    exact exitRes hw h
  | ok r0 =>
  obtain ⟨key, ik⟩ := r0
  rw [hk] at h
  simp only at h
  have hik := hkl key ik hk
  have hgj := skipSp_ge s j
  have e00 : ((0 : Int) != 0) = false := rfl
  simp -implicitDefEqProofs only [keyV, e00, f0, f2, f6, f7, f8, f9, ob, ws, ↓reduceIte, Nat.reduceEqDiff, Nat.reduceAdd, Nat.reduceLeDiff]
  rw [wrap64 (by omega), show (d : Int) + 1 = ((d + 1 : Nat) : Int) by omega]
  refine hrec ik _ _ hik.2 ?_
  cases hr : rec ik with
  | error x =>
    rw [hr] at h
    have he : ((x.2 : Int) != 0) = true := by
      have := herr ik x hik.2 hr
      simpa using this
    simp -implicitDefEqProofs only [resV, res9, zero7, zero9, he, f0, f2, f6, f7, f8, f9, ob, ws, ↓reduceIte, Nat.reduceEqDiff, Nat.reduceAdd, Nat.reduceLeDiff]
    exact exitRes hw h
  | ok r =>
    obtain ⟨v, i1⟩ := r
    rw [hr] at h
    simp only at h
    have hp := hprog ik v i1 hik.2 hr
    have hl1 := skipSp_le hp.2
    have hg1 := skipSp_ge s i1
    have e00 : ((0 : Int) != 0) = false := rfl
    have e0' : (([] : List V).length = 0) := rfl
    simp -implicitDefEqProofs only [resV, res9, take9r, JV.len, take7a, take7, drop7a, drop8r, drop8s, f0, f2, f6, f7, f8, f9, ob, e00, e55, ws, ↓reduceIte, Nat.reduceEqDiff, Nat.reduceAdd, Nat.reduceLeDiff]
    refine ⟨fun x hx => (by cases hx), fun x hx => (by rw [List.mem_singleton.1 hx]; exact ⟨JM.len (.mk key v (skipSp s j : Nat)), rfl⟩), vapp_clone (encMs_ct a) (by rw [encMs_len]; unfold big; omega) fun x2 σ2 hF => ?_⟩
    have hO := hF.objs
    obtain ⟨O2, M2, T2, Y2, U2⟩ := σ2
    simp only at hO
    subst hO
    simp -implicitDefEqProofs only [take9r, JV.len, take7a, take7, drop7a, drop8r, drop8s, f0, f2, f6, f7, f8, f9, ob, ws, ↓reduceIte, Nat.reduceEqDiff, Nat.reduceAdd, Nat.reduceLeDiff]
    refine ⟨fun x hx => (by rw [List.mem_singleton.1 hx]; exact ⟨JM.len (.mk key v (skipSp s j : Nat)), rfl⟩), vapp_fresh hF (by simp [hw.2, hUT]) (encMs_cells a) (JM.len (.mk key v (skipSp s j : Nat))) rfl (by rw [encMs_len]; unfold big; omega) ?_⟩
    clear hF
    simp -implicitDefEqProofs only [f0, f2, f6, f7, f8, f9, ob, take9r, JV.len, take7a, take7, drop7a, drop8r, drop8s, ws, ↓reduceIte, Nat.reduceEqDiff, Nat.reduceAdd, Nat.reduceLeDiff]
    refine r11spaces_C hp.2 hs ?_
    simp -implicitDefEqProofs only [f0, f2, f6, f7, f8, f9, ob, take9r, JV.len, take7a, take7, drop7a, drop8r, drop8s, ws, ↓reduceIte, Nat.reduceEqDiff, Nat.reduceAdd, Nat.reduceLeDiff]
    refine r06Has_C hl1 hs (by decide) ?_
    rw [hasPre1 _ _ _ (by decide)]
    have hsn : ∀ tk, V.slc true (encMs a ++ [.agg (V.str key :: (v.cells ++ [.int .i64 (skipSp s j : Int)]))]) tk = V.slc (!(a ++ [JM.mk key v (skipSp s j : Nat)]).isEmpty) (encMs (a ++ [JM.mk key v (skipSp s j : Nat)])) tk := fun tk => by
      rw [encMs_snoc]; simp [JM.cells]
    by_cases hE' : byteAt s (skipSp s i1) = 125
    · rw [if_pos hE'] at h
      rw [decide_eq_true hE']
      simp -implicitDefEqProofs only [f0, f2, f6, f7, f8, f9, ob, take9r, JV.len, take7a, take7, drop7a, drop8r, drop8s, zero9, ws, ↓reduceIte, Nat.reduceEqDiff, Nat.reduceAdd, Nat.reduceLeDiff]
      rw [wrap64 (by omega)]
      refine exitNewT (out' := .ret (resV (.ok (jv 5 false 0 [] [] (a ++ [JM.mk key v (skipSp s j : Nat)]) i, skipSp s i1 + 1)))) hw ?_ (resV_fits _ _ _ _) h
      have hcl : cleanL σ.toks.length (encMs a ++ [.agg (V.str key :: (v.cells ++ [.int .i64 (skipSp s j : Int)]))]) = encMs a ++ [.agg (V.str key :: (v.cells ++ [.int .i64 (skipSp s j : Int)]))] := by
        have := encMs_clean σ.toks.length (a ++ [JM.mk key v (skipSp s j : Nat)])
        rw [encMs_snoc] at this
        exact this
      simp only [Out.clean, V.clean, cleanL, hcl, Tk.clean, if_neg (show ¬ (σ.toks.length + T.length < σ.toks.length) by omega)]
      simp [resV, res9, jv, JV.cells, JM.cells, slcE, encMs_snoc, encL, Tk.clean]
    rw [if_neg hE'] at h
    rw [decide_eq_false hE']
    simp -implicitDefEqProofs only [f0, f2, f6, f7, f8, f9, ob, take9r, JV.len, take7a, take7, drop7a, drop8r, drop8s, ws, ↓reduceIte, Nat.reduceEqDiff, Nat.reduceAdd, Nat.reduceLeDiff]
    refine r06Has_C hl1 hs (by decide) ?_
    rw [hasPre1 _ _ _ (by decide)]
    by_cases h44 : byteAt s (skipSp s i1) = 44
    · rw [if_pos h44] at h
      rw [decide_eq_true h44]
      have := byteAt_lt (by decide) h44
      simp -implicitDefEqProofs only [f0, f2, f6, f7, f8, f9, ob, take9r, JV.len, take7a, take7, drop7a, drop8r, drop8s, ws, ↓reduceIte, Nat.reduceEqDiff, Nat.reduceAdd, Nat.reduceLeDiff]
      rw [wrap64 (by omega)]
      refine ⟨n, by omega, skipSp s i1 + 1, a ++ [JM.mk key v (skipSp s j : Nat)], .own (σ.toks.length + T.length), X ++ [v.cells ++ [.int .i64 (i1 : Int), .int .i64 0]], Y ++ [53], U ++ [41], T ++ [(encMs a).length + 1], by omega, by omega, ?_, ?_, h, f0, f2, f6, f7, f8, rfl, ?_⟩
      · rw [List.length_append]; simp; omega
      · simp [hUT]
      · rw [← hsn]
    · rw [if_neg h44] at h
      rw [decide_eq_false h44]
      simp -implicitDefEqProofs only [f0, f2, f6, f7, f8, f9, ob, take9r, JV.len, take7a, take7, drop7a, drop8r, drop8s, ws, ↓reduceIte, Nat.reduceEqDiff, Nat.reduceAdd, Nat.reduceLeDiff]
      refine r11wrong_C hl1 ?_
      simp -implicitDefEqProofs only [resV, res9, zero7, zero9, f0, f2, f6, f7, f8, f9, ob, take9r, JV.len, take7a, take7, drop7a, drop8r, drop8s, ws, ↓reduceIte, Nat.reduceEqDiff, Nat.reduceAdd, Nat.reduceLeDiff]
      exact exitRes hw h
end Go.Proofs.YtgdcdkgmeomhpaaGreatDoor

namespace Go.Proofs.YtgdcdkgmeomhpaaGreatDoor
open Go Go.Vs
set_option maxRecDepth 20000
attribute [local irreducible] chooseK

theorem resV_cells (r : Res JV) : ∃ cs, resV r = .agg cs ∧ cs.length = 9 := by
  cases r with
  | ok r => exact ⟨_, rfl, by simp [JV.len]⟩
  | error x => exact ⟨_, rfl, by simp [zero7]⟩

/-- Behind the bytes of a number. -/
def numE (s : List UInt8) (p : Nat) : Nat := p + (numT (s.drop p)).length
theorem numE_step {s : List UInt8} {p : Nat} (h : p < s.length) : numE s p = if numSet.contains (s.getD p 0) then numE s (p + 1) else p := by
  unfold numE numT
  rw [drop_getD 0 h, List.takeWhile_cons]
  split
  · simp; omega
  · simp
theorem numE_end (s : List UInt8) : numE s s.length = s.length := by simp [numE, numT]
theorem cut_num (s : List UInt8) (j : Nat) : cut s j (numE s j) = numT (s.drop j) := by
  rw [cut, List.drop_take, numE, Nat.add_sub_cancel_left]
  have h := List.takeWhile_append_dropWhile (p := fun c : UInt8 => numSet.contains c) (l := s.drop j)
  unfold numT
  conv => lhs; arg 2; rw [← h]
  exact List.take_left' rfl
theorem numE_le {s : List UInt8} {j : Nat} (h : j ≤ s.length) : numE s j ≤ s.length := by
  have := numT_len (s.drop j)
  rw [List.length_drop] at this
  unfold numE
  omega

theorem r11value_body {s : List UInt8} {d : Nat} {lim : Bool} {rec : Nat → Res JV} (hs : s.length ≤ big) (hd : d ≤ 101) (hlim : lim = decide (100 < d)) (hrec : lim = false → ValR s (d + 1) rec) (hprog : ProgR s rec) (herr : lim = false → ErrR s rec) (hsk : ∀ i, rec (skipSp s i) = rec i) : ValR s d (valueF lim rec s) := by
  intro i σ Q hi h
  have hs' := hs
  unfold big at hs'
  have hle := skipSp_le hi
  unfold valueF at h
  dsimp only at h
  refine bodyW cf_r11value (Eq.refl true) fun hw => ?_
  simp -implicitDefEqProofs only [vf_r11value, ob, ws, ↓reduceIte, Nat.reduceEqDiff, Nat.reduceAdd, Nat.reduceLeDiff]
  refine r11spaces_C hi hs ?_
  generalize skipSp s i = j at *
  simp -implicitDefEqProofs only [ob, ws, ↓reduceIte, Nat.reduceEqDiff, Nat.reduceAdd, Nat.reduceLeDiff]
  refine chooseK_split (fun g0 => ?_) (fun g0 => ?_) <;> simp -implicitDefEqProofs only [g0, ob, ws, ↓reduceIte, Nat.reduceEqDiff, Nat.reduceAdd, Nat.reduceLeDiff]
  · have hj : j = s.length := by simp at g0; omega
    have hb : byteAt s j = 0 := byteAt_end (by omega)
    rw [hb, if_neg (by cases lim <;> decide), if_neg (by decide), if_neg (by decide), if_neg (by decide), if_neg (by decide), if_neg (by decide), if_neg (by decide), if_neg (by decide)] at h
    refine r11wrong_C hle ?_
    obtain ⟨cs, hcs, hl9⟩ := resV_cells (.error (wrongR s j))
    have hcl := resV_clean σ.toks.length (.error (wrongR s j))
    have hft := resV_fits σ.objs.length σ.maps.length σ.toks.length (.error (wrongR s j))
    rw [hcs] at h hcl hft ⊢
    have ht9 : List.take 9 cs = cs := List.take_of_length_le (by omega)
    have hd9 : List.drop 9 cs = [] := List.drop_of_length_le (by omega)
    simp -implicitDefEqProofs only [hl9, ht9, ob, ws, ↓reduceIte, Nat.reduceEqDiff, Nat.reduceAdd, Nat.reduceLeDiff]
    exact exitNew hw hcl hft h
  have hjl : j < s.length := by simp at g0; omega
  have hc0 : ((s.getD j 0).toNat : Int) = ((byteAt s j).toNat : Int) := rfl
  have hcc : s.getD j 0 = byteAt s j := rfl
  refine chooseK_split (fun d1 => ?_) (fun d1 => ?_) <;> simp -implicitDefEqProofs only [d1, ob, hcc, ws, ↓reduceIte, Nat.reduceEqDiff, Nat.reduceAdd, Nat.reduceLeDiff]
  · have hl1 : lim = true := by rw [hlim]; simp at d1; simp; omega
    refine ⟨by omega, ?_⟩
    refine r11begins_C ?_
    simp -implicitDefEqProofs only [ob, hcc, ws, ↓reduceIte, Nat.reduceEqDiff, Nat.reduceAdd, Nat.reduceLeDiff]
    refine chooseK_split (fun d2 => ?_) (fun d2 => ?_) <;> simp -implicitDefEqProofs only [d2, ob, hcc, ws, ↓reduceIte, Nat.reduceEqDiff, Nat.reduceAdd, Nat.reduceLeDiff]
    · rw [if_pos (by rw [hl1, d2]; rfl)] at h
      try simp -implicitDefEqProofs only [zero9, ob, hcc, ws, ↓reduceIte, Nat.reduceEqDiff, Nat.reduceAdd, Nat.reduceLeDiff]
      exact exitRes0 hw h
    have hb : ¬ (lim && beginsB (byteAt s j)) = true := by rw [hl1, d2]; decide
    rw [if_neg hb] at h
    refine ⟨by omega, ?_⟩
    refine chooseK_split (fun g1 => ?_) (fun g1 => ?_) <;> simp -implicitDefEqProofs only [g1, ob, hcc, ws, ↓reduceIte, Nat.reduceEqDiff, Nat.reduceAdd, Nat.reduceLeDiff]
    · have e : byteAt s j = (110 : UInt8) := byte_eq rfl g1
      rw [if_pos e] at h
      refine r11word_C (v := jv 0 false 0 [] [] [] 0) hjl hs (by decide) ?_
      have h : Q (.ret (resV (wordS s j [110, 117, 108, 108] ((jv 0 false 0 [] [] [] 0).setAt j)))) σ := h
      obtain ⟨cs, hcs, hl9⟩ := resV_cells (wordS s j [110, 117, 108, 108] ((jv 0 false 0 [] [] [] 0).setAt j))
      have hcl := resV_clean σ.toks.length (wordS s j [110, 117, 108, 108] ((jv 0 false 0 [] [] [] 0).setAt j))
      have hft := resV_fits σ.objs.length σ.maps.length σ.toks.length (wordS s j [110, 117, 108, 108] ((jv 0 false 0 [] [] [] 0).setAt j))
      rw [hcs] at h hcl hft ⊢
      have ht9 : List.take 9 cs = cs := List.take_of_length_le (by omega)
      have hd9 : List.drop 9 cs = [] := List.drop_of_length_le (by omega)
      simp -implicitDefEqProofs only [hl9, ht9, ob, hcc, ws, ↓reduceIte, Nat.reduceEqDiff, Nat.reduceAdd, Nat.reduceLeDiff]
      exact exitNew hw hcl hft h
    rw [if_neg (byte_ne rfl g1)] at h
    refine chooseK_split (fun g2 => ?_) (fun g2 => ?_) <;> simp -implicitDefEqProofs only [g2, ob, hcc, ws, ↓reduceIte, Nat.reduceEqDiff, Nat.reduceAdd, Nat.reduceLeDiff]
    · have e : byteAt s j = (116 : UInt8) := byte_eq rfl g2
      rw [if_pos e] at h
      refine r11word_C (v := jv 1 true 0 [] [] [] 0) hjl hs (by decide) ?_
      have h : Q (.ret (resV (wordS s j [116, 114, 117, 101] ((jv 1 true 0 [] [] [] 0).setAt j)))) σ := h
      obtain ⟨cs, hcs, hl9⟩ := resV_cells (wordS s j [116, 114, 117, 101] ((jv 1 true 0 [] [] [] 0).setAt j))
      have hcl := resV_clean σ.toks.length (wordS s j [116, 114, 117, 101] ((jv 1 true 0 [] [] [] 0).setAt j))
      have hft := resV_fits σ.objs.length σ.maps.length σ.toks.length (wordS s j [116, 114, 117, 101] ((jv 1 true 0 [] [] [] 0).setAt j))
      rw [hcs] at h hcl hft ⊢
      have ht9 : List.take 9 cs = cs := List.take_of_length_le (by omega)
      have hd9 : List.drop 9 cs = [] := List.drop_of_length_le (by omega)
      simp -implicitDefEqProofs only [hl9, ht9, ob, hcc, ws, ↓reduceIte, Nat.reduceEqDiff, Nat.reduceAdd, Nat.reduceLeDiff]
      exact exitNew hw hcl hft h
    rw [if_neg (byte_ne rfl g2)] at h
    refine chooseK_split (fun g3 => ?_) (fun g3 => ?_) <;> simp -implicitDefEqProofs only [g3, ob, hcc, ws, ↓reduceIte, Nat.reduceEqDiff, Nat.reduceAdd, Nat.reduceLeDiff]
    · have e : byteAt s j = (102 : UInt8) := byte_eq rfl g3
      rw [if_pos e] at h
      refine r11word_C (v := jv 1 false 0 [] [] [] 0) hjl hs (by decide) ?_
      have h : Q (.ret (resV (wordS s j [102, 97, 108, 115, 101] ((jv 1 false 0 [] [] [] 0).setAt j)))) σ := h
      obtain ⟨cs, hcs, hl9⟩ := resV_cells (wordS s j [102, 97, 108, 115, 101] ((jv 1 false 0 [] [] [] 0).setAt j))
      have hcl := resV_clean σ.toks.length (wordS s j [102, 97, 108, 115, 101] ((jv 1 false 0 [] [] [] 0).setAt j))
      have hft := resV_fits σ.objs.length σ.maps.length σ.toks.length (wordS s j [102, 97, 108, 115, 101] ((jv 1 false 0 [] [] [] 0).setAt j))
      rw [hcs] at h hcl hft ⊢
      have ht9 : List.take 9 cs = cs := List.take_of_length_le (by omega)
      have hd9 : List.drop 9 cs = [] := List.drop_of_length_le (by omega)
      simp -implicitDefEqProofs only [hl9, ht9, ob, hcc, ws, ↓reduceIte, Nat.reduceEqDiff, Nat.reduceAdd, Nat.reduceLeDiff]
      exact exitNew hw hcl hft h
    rw [if_neg (byte_ne rfl g3)] at h
    refine chooseK_split (fun g4 => ?_) (fun g4 => ?_) <;> simp -implicitDefEqProofs only [g4, ob, hcc, ws, ↓reduceIte, Nat.reduceEqDiff, Nat.reduceAdd, Nat.reduceLeDiff]
    · have e : byteAt s j = (34 : UInt8) := byte_eq rfl g4
      rw [if_pos e] at h
      refine r10Parse_C hle hs ?_
      generalize strP s j = r at h ⊢
      obtain ⟨b, to, e⟩ := r
      dsimp only at h ⊢
      simp -implicitDefEqProofs only [ob, hcc, ws, ↓reduceIte, Nat.reduceEqDiff, Nat.reduceAdd, Nat.reduceLeDiff]
      refine chooseK_split (fun k1 => ?_) (fun k1 => ?_) <;> simp -implicitDefEqProofs only [k1, ob, hcc, ws, ↓reduceIte, Nat.reduceEqDiff, Nat.reduceAdd, Nat.reduceLeDiff]
      · rw [if_neg (by simp at k1; omega)] at h
        try simp -implicitDefEqProofs only [zero9, ob, hcc, ws, ↓reduceIte, Nat.reduceEqDiff, Nat.reduceAdd, Nat.reduceLeDiff]
        exact exitRes0 hw h
      · rw [if_pos (by simp at k1; omega)] at h
        try simp -implicitDefEqProofs only [zero9, ob, hcc, ws, ↓reduceIte, Nat.reduceEqDiff, Nat.reduceAdd, Nat.reduceLeDiff]
        exact exitRes0 hw h
    rw [if_neg (byte_ne rfl g4)] at h
    refine chooseK_split (fun g5 => ?_) (fun g5 => ?_) <;> simp -implicitDefEqProofs only [g5, ob, hcc, ws, ↓reduceIte, Nat.reduceEqDiff, Nat.reduceAdd, Nat.reduceLeDiff]
    · have e : byteAt s j = (91 : UInt8) := byte_eq rfl g5
      have hl0 : lim = false := by
        cases hl : lim with
        | false => rfl
        | true => rw [hl, e] at hb; exact absurd (by decide) hb
      rw [if_neg (by rw [e]; decide), if_pos e] at h
      refine arr_C hs (by omega) (hrec hl0) hprog (herr hl0) hsk hjl (by show (byteAt s j).toNat = 91; rw [e]; rfl) ?_
      have h : Q (.ret (resV (match elemS (arrStep rec) s 93 j [] with | .ok (is, i1) => (.ok (jv 4 false 0 [] is [] j, i1) : Res JV) | .error x => .error x))) σ := h
      show itK _ _ _ _ (.ret (resV (match elemS (arrStep rec) s 93 j [] with | .ok (is, i1) => (.ok (jv 4 false 0 [] is [] j, i1) : Res JV) | .error x => .error x))) _
      obtain ⟨cs, hcs, hl9⟩ := resV_cells (match elemS (arrStep rec) s 93 j [] with | .ok (is, i1) => (.ok (jv 4 false 0 [] is [] j, i1) : Res JV) | .error x => .error x)
      have hcl := resV_clean σ.toks.length (match elemS (arrStep rec) s 93 j [] with | .ok (is, i1) => (.ok (jv 4 false 0 [] is [] j, i1) : Res JV) | .error x => .error x)
      have hft := resV_fits σ.objs.length σ.maps.length σ.toks.length (match elemS (arrStep rec) s 93 j [] with | .ok (is, i1) => (.ok (jv 4 false 0 [] is [] j, i1) : Res JV) | .error x => .error x)
      rw [hcs] at h hcl hft ⊢
      have ht9 : List.take 9 cs = cs := List.take_of_length_le (by omega)
      have hd9 : List.drop 9 cs = [] := List.drop_of_length_le (by omega)
      simp -implicitDefEqProofs only [hl9, ht9, ob, hcc, ws, ↓reduceIte, Nat.reduceEqDiff, Nat.reduceAdd, Nat.reduceLeDiff]
      exact exitNew hw hcl hft h
    refine chooseK_split (fun g6 => ?_) (fun g6 => ?_) <;> simp -implicitDefEqProofs only [g6, ob, hcc, ws, ↓reduceIte, Nat.reduceEqDiff, Nat.reduceAdd, Nat.reduceLeDiff]
    · have e : byteAt s j = (123 : UInt8) := byte_eq rfl g6
      have hl0 : lim = false := by
        cases hl : lim with
        | false => rfl
        | true => rw [hl, e] at hb; exact absurd (by decide) hb
      rw [if_neg (by rw [e]; decide), if_neg (by rw [e]; decide), if_pos e] at h
      refine obj_C hs (by omega) (hrec hl0) hprog (herr hl0) hsk hjl (by show (byteAt s j).toNat = 123; rw [e]; rfl) ?_
      have h : Q (.ret (resV (match elemS (objStep rec s) s 125 j [] with | .ok (ms, i1) => (.ok (jv 5 false 0 [] [] ms j, i1) : Res JV) | .error x => .error x))) σ := h
      show itK _ _ _ _ (.ret (resV (match elemS (objStep rec s) s 125 j [] with | .ok (ms, i1) => (.ok (jv 5 false 0 [] [] ms j, i1) : Res JV) | .error x => .error x))) _
      obtain ⟨cs, hcs, hl9⟩ := resV_cells (match elemS (objStep rec s) s 125 j [] with | .ok (ms, i1) => (.ok (jv 5 false 0 [] [] ms j, i1) : Res JV) | .error x => .error x)
      have hcl := resV_clean σ.toks.length (match elemS (objStep rec s) s 125 j [] with | .ok (ms, i1) => (.ok (jv 5 false 0 [] [] ms j, i1) : Res JV) | .error x => .error x)
      have hft := resV_fits σ.objs.length σ.maps.length σ.toks.length (match elemS (objStep rec s) s 125 j [] with | .ok (ms, i1) => (.ok (jv 5 false 0 [] [] ms j, i1) : Res JV) | .error x => .error x)
      rw [hcs] at h hcl hft ⊢
      have ht9 : List.take 9 cs = cs := List.take_of_length_le (by omega)
      have hd9 : List.drop 9 cs = [] := List.drop_of_length_le (by omega)
      simp -implicitDefEqProofs only [hl9, ht9, ob, hcc, ws, ↓reduceIte, Nat.reduceEqDiff, Nat.reduceAdd, Nat.reduceLeDiff]
      exact exitNew hw hcl hft h
    refine ⟨by omega, ?_⟩
    have n5 : byteAt s j ≠ 91 := byte_ne rfl g5
    have n6 : byteAt s j ≠ 123 := byte_ne rfl g6
    refine chooseK_split (fun g7 => ?_) (fun g7 => ?_) <;> simp -implicitDefEqProofs only [g7, ob, hcc, ws, ↓reduceIte, Nat.reduceEqDiff, Nat.reduceAdd, Nat.reduceLeDiff]
    · refine ⟨by omega, ?_⟩
      have n7 : byteAt s j ≠ 45 := fun e => by rw [e] at g7; cases g7
      refine chooseK_split (fun g8 => ?_) (fun g8 => ?_) <;> simp -implicitDefEqProofs only [g8, ob, hcc, ws, ↓reduceIte, Nat.reduceEqDiff, Nat.reduceAdd, Nat.reduceLeDiff]
      · rw [if_neg (fun hh => hh.elim n7 (fun hh => by simp at g8; omega)), if_neg n5, if_neg n6] at h
        refine r11wrong_C hle ?_
        obtain ⟨cs, hcs, hl9⟩ := resV_cells (.error (wrongR s j))
        have hcl := resV_clean σ.toks.length (.error (wrongR s j))
        have hft := resV_fits σ.objs.length σ.maps.length σ.toks.length (.error (wrongR s j))
        rw [hcs] at h hcl hft ⊢
        have ht9 : List.take 9 cs = cs := List.take_of_length_le (by omega)
        have hd9 : List.drop 9 cs = [] := List.drop_of_length_le (by omega)
        simp -implicitDefEqProofs only [hl9, ht9, ob, hcc, ws, ↓reduceIte, Nat.reduceEqDiff, Nat.reduceAdd, Nat.reduceLeDiff]
        exact exitNew hw hcl hft h
      refine ⟨by omega, ?_⟩
      refine chooseK_split (fun g9 => ?_) (fun g9 => ?_) <;> simp -implicitDefEqProofs only [g9, ob, hcc, ws, ↓reduceIte, Nat.reduceEqDiff, Nat.reduceAdd, Nat.reduceLeDiff]
      · rw [if_neg (fun hh => hh.elim n7 (fun hh => by simp at g9; omega)), if_neg n5, if_neg n6] at h
        refine r11wrong_C hle ?_
        obtain ⟨cs, hcs, hl9⟩ := resV_cells (.error (wrongR s j))
        have hcl := resV_clean σ.toks.length (.error (wrongR s j))
        have hft := resV_fits σ.objs.length σ.maps.length σ.toks.length (.error (wrongR s j))
        rw [hcs] at h hcl hft ⊢
        have ht9 : List.take 9 cs = cs := List.take_of_length_le (by omega)
        have hd9 : List.drop 9 cs = [] := List.drop_of_length_le (by omega)
        simp -implicitDefEqProofs only [hl9, ht9, ob, hcc, ws, ↓reduceIte, Nat.reduceEqDiff, Nat.reduceAdd, Nat.reduceLeDiff]
        exact exitNew hw hcl hft h
      have hn : byteAt s j = 45 ∨ 48 ≤ (byteAt s j).toNat ∧ (byteAt s j).toNat ≤ 57 := .inr (by simp at g8 g9; omega)
      rw [if_pos hn] at h
      rw [numS_numR] at h
      refine LoopP.intro (fun n fr σ' => ∃ (p : Nat), j ≤ p ∧ p ≤ s.length ∧ n = s.length - p ∧ numE s p = numE s j ∧ fr 0 = .str s ∧ fr 1 = .int .i64 (j : Int) ∧ fr 6 = .ref (some (σ.objs.length, 0)) ∧ fr 10 = .int .i64 (p : Int) ∧ σ' = ⟨σ.objs ++ [zero9], σ.maps, σ.toks, σ.tys ++ [53], σ.tts⟩) (s.length - j) ?_ ?_
      · exact ⟨j, by omega, by omega, rfl, rfl, rfl, rfl, rfl, rfl, rfl⟩
      rintro n fr σ' ⟨p, hpj, hp, rfl, hpe, f0, f1, f6, f10, rfl⟩
      simp -implicitDefEqProofs only [f0, f1, f6, f10, ob, ws, ↓reduceIte, Nat.reduceEqDiff, Nat.reduceAdd, Nat.reduceLeDiff]
      refine chooseK_split (fun n1 => ?_) (fun n1 => ?_) <;> simp -implicitDefEqProofs only [n1, f0, f1, f6, f10, ob, ws, ↓reduceIte, Nat.reduceEqDiff, Nat.reduceAdd, Nat.reduceLeDiff]
      · have hpl : p < s.length := by simp at n1; omega
        have hst := numE_step hpl
        refine ⟨by omega, ?_⟩
        refine r11numeric_C ?_
        simp -implicitDefEqProofs only [f0, f1, f6, f10, ob, ws, ↓reduceIte, Nat.reduceEqDiff, Nat.reduceAdd, Nat.reduceLeDiff]
        refine chooseK_split (fun n2 => ?_) (fun n2 => ?_) <;> simp -implicitDefEqProofs only [n2, f0, f1, f6, f10, ob, ws, ↓reduceIte, Nat.reduceEqDiff, Nat.reduceAdd, Nat.reduceLeDiff]
        · rw [if_pos n2] at hst
          rw [wrap64 (by omega)]
          exact ⟨s.length - (p + 1), by omega, p + 1, by omega, by omega, rfl, by rw [← hpe, hst], f0, f1, f6, rfl, rfl⟩
        · rw [if_neg (by rw [n2]; simp)] at hst
          have hpp : p = numE s j := by rw [← hpe, hst]
          have hnl := numE_le hle
          refine ⟨by omega, by omega, ?_⟩
          rw [hpp, cut_num]
          have hln : (numT (s.drop j)).length ≤ s.length := by have := numT_len (s.drop j); rw [List.length_drop] at this; omega
          refine refNumber_C (by unfold big; omega) ?_
          cases hnr : numR (numT (s.drop j)) with
          | none =>
            rw [hnr] at h
            intro nn
            try simp -implicitDefEqProofs only [zero9, f0, f1, f6, f10, ob, ws, ↓reduceIte, Nat.reduceEqDiff, Nat.reduceAdd, Nat.reduceLeDiff]
            exact exitRes0 hw h
          | some v =>
            rw [hnr] at h
            try simp -implicitDefEqProofs only [zero9, f0, f1, f6, f10, ob, ws, ↓reduceIte, Nat.reduceEqDiff, Nat.reduceAdd, Nat.reduceLeDiff]
            have e : p = j + (numT (s.drop j)).length := hpp
            rw [e]
            exact exitRes0 hw h
      · have hpp : p = numE s j := by
          have : p = s.length := by simp at n1; omega
          rw [← hpe, this, numE_end]
        have hnl := numE_le hle
        refine ⟨by omega, by omega, ?_⟩
        rw [hpp, cut_num]
        have hln : (numT (s.drop j)).length ≤ s.length := by have := numT_len (s.drop j); rw [List.length_drop] at this; omega
        refine refNumber_C (by unfold big; omega) ?_
        cases hnr : numR (numT (s.drop j)) with
        | none =>
          rw [hnr] at h
          intro nn
          try simp -implicitDefEqProofs only [zero9, f0, f1, f6, f10, ob, ws, ↓reduceIte, Nat.reduceEqDiff, Nat.reduceAdd, Nat.reduceLeDiff]
          exact exitRes0 hw h
        | some v =>
          rw [hnr] at h
          try simp -implicitDefEqProofs only [zero9, f0, f1, f6, f10, ob, ws, ↓reduceIte, Nat.reduceEqDiff, Nat.reduceAdd, Nat.reduceLeDiff]
          have e : p = j + (numT (s.drop j)).length := hpp
          rw [e]
          exact exitRes0 hw h
    · have n7 : byteAt s j = 45 := byte_eq rfl (by simpa using g7)
      have hn : byteAt s j = 45 ∨ 48 ≤ (byteAt s j).toNat ∧ (byteAt s j).toNat ≤ 57 := .inl n7
      rw [if_pos hn] at h
      rw [numS_numR] at h
      refine LoopP.intro (fun n fr σ' => ∃ (p : Nat), j ≤ p ∧ p ≤ s.length ∧ n = s.length - p ∧ numE s p = numE s j ∧ fr 0 = .str s ∧ fr 1 = .int .i64 (j : Int) ∧ fr 6 = .ref (some (σ.objs.length, 0)) ∧ fr 10 = .int .i64 (p : Int) ∧ σ' = ⟨σ.objs ++ [zero9], σ.maps, σ.toks, σ.tys ++ [53], σ.tts⟩) (s.length - j) ?_ ?_
      · exact ⟨j, by omega, by omega, rfl, rfl, rfl, rfl, rfl, rfl, rfl⟩
      rintro n fr σ' ⟨p, hpj, hp, rfl, hpe, f0, f1, f6, f10, rfl⟩
      simp -implicitDefEqProofs only [f0, f1, f6, f10, ob, ws, ↓reduceIte, Nat.reduceEqDiff, Nat.reduceAdd, Nat.reduceLeDiff]
      refine chooseK_split (fun n1 => ?_) (fun n1 => ?_) <;> simp -implicitDefEqProofs only [n1, f0, f1, f6, f10, ob, ws, ↓reduceIte, Nat.reduceEqDiff, Nat.reduceAdd, Nat.reduceLeDiff]
      · have hpl : p < s.length := by simp at n1; omega
        have hst := numE_step hpl
        refine ⟨by omega, ?_⟩
        refine r11numeric_C ?_
        simp -implicitDefEqProofs only [f0, f1, f6, f10, ob, ws, ↓reduceIte, Nat.reduceEqDiff, Nat.reduceAdd, Nat.reduceLeDiff]
        refine chooseK_split (fun n2 => ?_) (fun n2 => ?_) <;> simp -implicitDefEqProofs only [n2, f0, f1, f6, f10, ob, ws, ↓reduceIte, Nat.reduceEqDiff, Nat.reduceAdd, Nat.reduceLeDiff]
        · rw [if_pos n2] at hst
          rw [wrap64 (by omega)]
          exact ⟨s.length - (p + 1), by omega, p + 1, by omega, by omega, rfl, by rw [← hpe, hst], f0, f1, f6, rfl, rfl⟩
        · rw [if_neg (by rw [n2]; simp)] at hst
          have hpp : p = numE s j := by rw [← hpe, hst]
          have hnl := numE_le hle
          refine ⟨by omega, by omega, ?_⟩
          rw [hpp, cut_num]
          have hln : (numT (s.drop j)).length ≤ s.length := by have := numT_len (s.drop j); rw [List.length_drop] at this; omega
          refine refNumber_C (by unfold big; omega) ?_
          cases hnr : numR (numT (s.drop j)) with
          | none =>
            rw [hnr] at h
            intro nn
            try simp -implicitDefEqProofs only [zero9, f0, f1, f6, f10, ob, ws, ↓reduceIte, Nat.reduceEqDiff, Nat.reduceAdd, Nat.reduceLeDiff]
            exact exitRes0 hw h
          | some v =>
            rw [hnr] at h
            try simp -implicitDefEqProofs only [zero9, f0, f1, f6, f10, ob, ws, ↓reduceIte, Nat.reduceEqDiff, Nat.reduceAdd, Nat.reduceLeDiff]
            have e : p = j + (numT (s.drop j)).length := hpp
            rw [e]
            exact exitRes0 hw h
      · have hpp : p = numE s j := by
          have : p = s.length := by simp at n1; omega
          rw [← hpe, this, numE_end]
        have hnl := numE_le hle
        refine ⟨by omega, by omega, ?_⟩
        rw [hpp, cut_num]
        have hln : (numT (s.drop j)).length ≤ s.length := by have := numT_len (s.drop j); rw [List.length_drop] at this; omega
        refine refNumber_C (by unfold big; omega) ?_
        cases hnr : numR (numT (s.drop j)) with
        | none =>
          rw [hnr] at h
          intro nn
          try simp -implicitDefEqProofs only [zero9, f0, f1, f6, f10, ob, ws, ↓reduceIte, Nat.reduceEqDiff, Nat.reduceAdd, Nat.reduceLeDiff]
          exact exitRes0 hw h
        | some v =>
          rw [hnr] at h
          try simp -implicitDefEqProofs only [zero9, f0, f1, f6, f10, ob, ws, ↓reduceIte, Nat.reduceEqDiff, Nat.reduceAdd, Nat.reduceLeDiff]
          have e : p = j + (numT (s.drop j)).length := hpp
          rw [e]
          exact exitRes0 hw h
  · have hl1 : lim = false := by rw [hlim]; simp at d1; simp; omega
    have hb : ¬ (lim && beginsB (byteAt s j)) = true := by rw [hl1]; simp
    rw [if_neg hb] at h
    refine ⟨by omega, ?_⟩
    refine chooseK_split (fun g1 => ?_) (fun g1 => ?_) <;> simp -implicitDefEqProofs only [g1, ob, hcc, ws, ↓reduceIte, Nat.reduceEqDiff, Nat.reduceAdd, Nat.reduceLeDiff]
    · have e : byteAt s j = (110 : UInt8) := byte_eq rfl g1
      rw [if_pos e] at h
      refine r11word_C (v := jv 0 false 0 [] [] [] 0) hjl hs (by decide) ?_
      have h : Q (.ret (resV (wordS s j [110, 117, 108, 108] ((jv 0 false 0 [] [] [] 0).setAt j)))) σ := h
      obtain ⟨cs, hcs, hl9⟩ := resV_cells (wordS s j [110, 117, 108, 108] ((jv 0 false 0 [] [] [] 0).setAt j))
      have hcl := resV_clean σ.toks.length (wordS s j [110, 117, 108, 108] ((jv 0 false 0 [] [] [] 0).setAt j))
      have hft := resV_fits σ.objs.length σ.maps.length σ.toks.length (wordS s j [110, 117, 108, 108] ((jv 0 false 0 [] [] [] 0).setAt j))
      rw [hcs] at h hcl hft ⊢
      have ht9 : List.take 9 cs = cs := List.take_of_length_le (by omega)
      have hd9 : List.drop 9 cs = [] := List.drop_of_length_le (by omega)
      simp -implicitDefEqProofs only [hl9, ht9, ob, hcc, ws, ↓reduceIte, Nat.reduceEqDiff, Nat.reduceAdd, Nat.reduceLeDiff]
      exact exitNew hw hcl hft h
    rw [if_neg (byte_ne rfl g1)] at h
    refine chooseK_split (fun g2 => ?_) (fun g2 => ?_) <;> simp -implicitDefEqProofs only [g2, ob, hcc, ws, ↓reduceIte, Nat.reduceEqDiff, Nat.reduceAdd, Nat.reduceLeDiff]
    · have e : byteAt s j = (116 : UInt8) := byte_eq rfl g2
      rw [if_pos e] at h
      refine r11word_C (v := jv 1 true 0 [] [] [] 0) hjl hs (by decide) ?_
      have h : Q (.ret (resV (wordS s j [116, 114, 117, 101] ((jv 1 true 0 [] [] [] 0).setAt j)))) σ := h
      obtain ⟨cs, hcs, hl9⟩ := resV_cells (wordS s j [116, 114, 117, 101] ((jv 1 true 0 [] [] [] 0).setAt j))
      have hcl := resV_clean σ.toks.length (wordS s j [116, 114, 117, 101] ((jv 1 true 0 [] [] [] 0).setAt j))
      have hft := resV_fits σ.objs.length σ.maps.length σ.toks.length (wordS s j [116, 114, 117, 101] ((jv 1 true 0 [] [] [] 0).setAt j))
      rw [hcs] at h hcl hft ⊢
      have ht9 : List.take 9 cs = cs := List.take_of_length_le (by omega)
      have hd9 : List.drop 9 cs = [] := List.drop_of_length_le (by omega)
      simp -implicitDefEqProofs only [hl9, ht9, ob, hcc, ws, ↓reduceIte, Nat.reduceEqDiff, Nat.reduceAdd, Nat.reduceLeDiff]
      exact exitNew hw hcl hft h
    rw [if_neg (byte_ne rfl g2)] at h
    refine chooseK_split (fun g3 => ?_) (fun g3 => ?_) <;> simp -implicitDefEqProofs only [g3, ob, hcc, ws, ↓reduceIte, Nat.reduceEqDiff, Nat.reduceAdd, Nat.reduceLeDiff]
    · have e : byteAt s j = (102 : UInt8) := byte_eq rfl g3
      rw [if_pos e] at h
      refine r11word_C (v := jv 1 false 0 [] [] [] 0) hjl hs (by decide) ?_
      have h : Q (.ret (resV (wordS s j [102, 97, 108, 115, 101] ((jv 1 false 0 [] [] [] 0).setAt j)))) σ := h
      obtain ⟨cs, hcs, hl9⟩ := resV_cells (wordS s j [102, 97, 108, 115, 101] ((jv 1 false 0 [] [] [] 0).setAt j))
      have hcl := resV_clean σ.toks.length (wordS s j [102, 97, 108, 115, 101] ((jv 1 false 0 [] [] [] 0).setAt j))
      have hft := resV_fits σ.objs.length σ.maps.length σ.toks.length (wordS s j [102, 97, 108, 115, 101] ((jv 1 false 0 [] [] [] 0).setAt j))
      rw [hcs] at h hcl hft ⊢
      have ht9 : List.take 9 cs = cs := List.take_of_length_le (by omega)
      have hd9 : List.drop 9 cs = [] := List.drop_of_length_le (by omega)
      simp -implicitDefEqProofs only [hl9, ht9, ob, hcc, ws, ↓reduceIte, Nat.reduceEqDiff, Nat.reduceAdd, Nat.reduceLeDiff]
      exact exitNew hw hcl hft h
    rw [if_neg (byte_ne rfl g3)] at h
    refine chooseK_split (fun g4 => ?_) (fun g4 => ?_) <;> simp -implicitDefEqProofs only [g4, ob, hcc, ws, ↓reduceIte, Nat.reduceEqDiff, Nat.reduceAdd, Nat.reduceLeDiff]
    · have e : byteAt s j = (34 : UInt8) := byte_eq rfl g4
      rw [if_pos e] at h
      refine r10Parse_C hle hs ?_
      generalize strP s j = r at h ⊢
      obtain ⟨b, to, e⟩ := r
      dsimp only at h ⊢
      simp -implicitDefEqProofs only [ob, hcc, ws, ↓reduceIte, Nat.reduceEqDiff, Nat.reduceAdd, Nat.reduceLeDiff]
      refine chooseK_split (fun k1 => ?_) (fun k1 => ?_) <;> simp -implicitDefEqProofs only [k1, ob, hcc, ws, ↓reduceIte, Nat.reduceEqDiff, Nat.reduceAdd, Nat.reduceLeDiff]
      · rw [if_neg (by simp at k1; omega)] at h
        try simp -implicitDefEqProofs only [zero9, ob, hcc, ws, ↓reduceIte, Nat.reduceEqDiff, Nat.reduceAdd, Nat.reduceLeDiff]
        exact exitRes0 hw h
      · rw [if_pos (by simp at k1; omega)] at h
        try simp -implicitDefEqProofs only [zero9, ob, hcc, ws, ↓reduceIte, Nat.reduceEqDiff, Nat.reduceAdd, Nat.reduceLeDiff]
        exact exitRes0 hw h
    rw [if_neg (byte_ne rfl g4)] at h
    refine chooseK_split (fun g5 => ?_) (fun g5 => ?_) <;> simp -implicitDefEqProofs only [g5, ob, hcc, ws, ↓reduceIte, Nat.reduceEqDiff, Nat.reduceAdd, Nat.reduceLeDiff]
    · have e : byteAt s j = (91 : UInt8) := byte_eq rfl g5
      have hl0 : lim = false := by
        cases hl : lim with
        | false => rfl
        | true => rw [hl, e] at hb; exact absurd (by decide) hb
      rw [if_neg (by rw [e]; decide), if_pos e] at h
      refine arr_C hs (by omega) (hrec hl0) hprog (herr hl0) hsk hjl (by show (byteAt s j).toNat = 91; rw [e]; rfl) ?_
      have h : Q (.ret (resV (match elemS (arrStep rec) s 93 j [] with | .ok (is, i1) => (.ok (jv 4 false 0 [] is [] j, i1) : Res JV) | .error x => .error x))) σ := h
      show itK _ _ _ _ (.ret (resV (match elemS (arrStep rec) s 93 j [] with | .ok (is, i1) => (.ok (jv 4 false 0 [] is [] j, i1) : Res JV) | .error x => .error x))) _
      obtain ⟨cs, hcs, hl9⟩ := resV_cells (match elemS (arrStep rec) s 93 j [] with | .ok (is, i1) => (.ok (jv 4 false 0 [] is [] j, i1) : Res JV) | .error x => .error x)
      have hcl := resV_clean σ.toks.length (match elemS (arrStep rec) s 93 j [] with | .ok (is, i1) => (.ok (jv 4 false 0 [] is [] j, i1) : Res JV) | .error x => .error x)
      have hft := resV_fits σ.objs.length σ.maps.length σ.toks.length (match elemS (arrStep rec) s 93 j [] with | .ok (is, i1) => (.ok (jv 4 false 0 [] is [] j, i1) : Res JV) | .error x => .error x)
      rw [hcs] at h hcl hft ⊢
      have ht9 : List.take 9 cs = cs := List.take_of_length_le (by omega)
      have hd9 : List.drop 9 cs = [] := List.drop_of_length_le (by omega)
      simp -implicitDefEqProofs only [hl9, ht9, ob, hcc, ws, ↓reduceIte, Nat.reduceEqDiff, Nat.reduceAdd, Nat.reduceLeDiff]
      exact exitNew hw hcl hft h
    refine chooseK_split (fun g6 => ?_) (fun g6 => ?_) <;> simp -implicitDefEqProofs only [g6, ob, hcc, ws, ↓reduceIte, Nat.reduceEqDiff, Nat.reduceAdd, Nat.reduceLeDiff]
    · have e : byteAt s j = (123 : UInt8) := byte_eq rfl g6
      have hl0 : lim = false := by
        cases hl : lim with
        | false => rfl
        | true => rw [hl, e] at hb; exact absurd (by decide) hb
      rw [if_neg (by rw [e]; decide), if_neg (by rw [e]; decide), if_pos e] at h
      refine obj_C hs (by omega) (hrec hl0) hprog (herr hl0) hsk hjl (by show (byteAt s j).toNat = 123; rw [e]; rfl) ?_
      have h : Q (.ret (resV (match elemS (objStep rec s) s 125 j [] with | .ok (ms, i1) => (.ok (jv 5 false 0 [] [] ms j, i1) : Res JV) | .error x => .error x))) σ := h
      show itK _ _ _ _ (.ret (resV (match elemS (objStep rec s) s 125 j [] with | .ok (ms, i1) => (.ok (jv 5 false 0 [] [] ms j, i1) : Res JV) | .error x => .error x))) _
      obtain ⟨cs, hcs, hl9⟩ := resV_cells (match elemS (objStep rec s) s 125 j [] with | .ok (ms, i1) => (.ok (jv 5 false 0 [] [] ms j, i1) : Res JV) | .error x => .error x)
      have hcl := resV_clean σ.toks.length (match elemS (objStep rec s) s 125 j [] with | .ok (ms, i1) => (.ok (jv 5 false 0 [] [] ms j, i1) : Res JV) | .error x => .error x)
      have hft := resV_fits σ.objs.length σ.maps.length σ.toks.length (match elemS (objStep rec s) s 125 j [] with | .ok (ms, i1) => (.ok (jv 5 false 0 [] [] ms j, i1) : Res JV) | .error x => .error x)
      rw [hcs] at h hcl hft ⊢
      have ht9 : List.take 9 cs = cs := List.take_of_length_le (by omega)
      have hd9 : List.drop 9 cs = [] := List.drop_of_length_le (by omega)
      simp -implicitDefEqProofs only [hl9, ht9, ob, hcc, ws, ↓reduceIte, Nat.reduceEqDiff, Nat.reduceAdd, Nat.reduceLeDiff]
      exact exitNew hw hcl hft h
    refine ⟨by omega, ?_⟩
    have n5 : byteAt s j ≠ 91 := byte_ne rfl g5
    have n6 : byteAt s j ≠ 123 := byte_ne rfl g6
    refine chooseK_split (fun g7 => ?_) (fun g7 => ?_) <;> simp -implicitDefEqProofs only [g7, ob, hcc, ws, ↓reduceIte, Nat.reduceEqDiff, Nat.reduceAdd, Nat.reduceLeDiff]
    · refine ⟨by omega, ?_⟩
      have n7 : byteAt s j ≠ 45 := fun e => by rw [e] at g7; cases g7
      refine chooseK_split (fun g8 => ?_) (fun g8 => ?_) <;> simp -implicitDefEqProofs only [g8, ob, hcc, ws, ↓reduceIte, Nat.reduceEqDiff, Nat.reduceAdd, Nat.reduceLeDiff]
      · rw [if_neg (fun hh => hh.elim n7 (fun hh => by simp at g8; omega)), if_neg n5, if_neg n6] at h
        refine r11wrong_C hle ?_
        obtain ⟨cs, hcs, hl9⟩ := resV_cells (.error (wrongR s j))
        have hcl := resV_clean σ.toks.length (.error (wrongR s j))
        have hft := resV_fits σ.objs.length σ.maps.length σ.toks.length (.error (wrongR s j))
        rw [hcs] at h hcl hft ⊢
        have ht9 : List.take 9 cs = cs := List.take_of_length_le (by omega)
        have hd9 : List.drop 9 cs = [] := List.drop_of_length_le (by omega)
        simp -implicitDefEqProofs only [hl9, ht9, ob, hcc, ws, ↓reduceIte, Nat.reduceEqDiff, Nat.reduceAdd, Nat.reduceLeDiff]
        exact exitNew hw hcl hft h
      refine ⟨by omega, ?_⟩
      refine chooseK_split (fun g9 => ?_) (fun g9 => ?_) <;> simp -implicitDefEqProofs only [g9, ob, hcc, ws, ↓reduceIte, Nat.reduceEqDiff, Nat.reduceAdd, Nat.reduceLeDiff]
      · rw [if_neg (fun hh => hh.elim n7 (fun hh => by simp at g9; omega)), if_neg n5, if_neg n6] at h
        refine r11wrong_C hle ?_
        obtain ⟨cs, hcs, hl9⟩ := resV_cells (.error (wrongR s j))
        have hcl := resV_clean σ.toks.length (.error (wrongR s j))
        have hft := resV_fits σ.objs.length σ.maps.length σ.toks.length (.error (wrongR s j))
        rw [hcs] at h hcl hft ⊢
        have ht9 : List.take 9 cs = cs := List.take_of_length_le (by omega)
        have hd9 : List.drop 9 cs = [] := List.drop_of_length_le (by omega)
        simp -implicitDefEqProofs only [hl9, ht9, ob, hcc, ws, ↓reduceIte, Nat.reduceEqDiff, Nat.reduceAdd, Nat.reduceLeDiff]
        exact exitNew hw hcl hft h
      have hn : byteAt s j = 45 ∨ 48 ≤ (byteAt s j).toNat ∧ (byteAt s j).toNat ≤ 57 := .inr (by simp at g8 g9; omega)
      rw [if_pos hn] at h
      rw [numS_numR] at h
      refine LoopP.intro (fun n fr σ' => ∃ (p : Nat), j ≤ p ∧ p ≤ s.length ∧ n = s.length - p ∧ numE s p = numE s j ∧ fr 0 = .str s ∧ fr 1 = .int .i64 (j : Int) ∧ fr 6 = .ref (some (σ.objs.length, 0)) ∧ fr 10 = .int .i64 (p : Int) ∧ σ' = ⟨σ.objs ++ [zero9], σ.maps, σ.toks, σ.tys ++ [53], σ.tts⟩) (s.length - j) ?_ ?_
      · exact ⟨j, by omega, by omega, rfl, rfl, rfl, rfl, rfl, rfl, rfl⟩
      rintro n fr σ' ⟨p, hpj, hp, rfl, hpe, f0, f1, f6, f10, rfl⟩
      simp -implicitDefEqProofs only [f0, f1, f6, f10, ob, ws, ↓reduceIte, Nat.reduceEqDiff, Nat.reduceAdd, Nat.reduceLeDiff]
      refine chooseK_split (fun n1 => ?_) (fun n1 => ?_) <;> simp -implicitDefEqProofs only [n1, f0, f1, f6, f10, ob, ws, ↓reduceIte, Nat.reduceEqDiff, Nat.reduceAdd, Nat.reduceLeDiff]
      · have hpl : p < s.length := by simp at n1; omega
        have hst := numE_step hpl
        refine ⟨by omega, ?_⟩
        refine r11numeric_C ?_
        simp -implicitDefEqProofs only [f0, f1, f6, f10, ob, ws, ↓reduceIte, Nat.reduceEqDiff, Nat.reduceAdd, Nat.reduceLeDiff]
        refine chooseK_split (fun n2 => ?_) (fun n2 => ?_) <;> simp -implicitDefEqProofs only [n2, f0, f1, f6, f10, ob, ws, ↓reduceIte, Nat.reduceEqDiff, Nat.reduceAdd, Nat.reduceLeDiff]
        · rw [if_pos n2] at hst
          rw [wrap64 (by omega)]
          exact ⟨s.length - (p + 1), by omega, p + 1, by omega, by omega, rfl, by rw [← hpe, hst], f0, f1, f6, rfl, rfl⟩
        · rw [if_neg (by rw [n2]; simp)] at hst
          have hpp : p = numE s j := by rw [← hpe, hst]
          have hnl := numE_le hle
          refine ⟨by omega, by omega, ?_⟩
          rw [hpp, cut_num]
          have hln : (numT (s.drop j)).length ≤ s.length := by have := numT_len (s.drop j); rw [List.length_drop] at this; omega
          refine refNumber_C (by unfold big; omega) ?_
          cases hnr : numR (numT (s.drop j)) with
          | none =>
            rw [hnr] at h
            intro nn
            try simp -implicitDefEqProofs only [zero9, f0, f1, f6, f10, ob, ws, ↓reduceIte, Nat.reduceEqDiff, Nat.reduceAdd, Nat.reduceLeDiff]
            exact exitRes0 hw h
          | some v =>
            rw [hnr] at h
            try simp -implicitDefEqProofs only [zero9, f0, f1, f6, f10, ob, ws, ↓reduceIte, Nat.reduceEqDiff, Nat.reduceAdd, Nat.reduceLeDiff]
            have e : p = j + (numT (s.drop j)).length := hpp
            rw [e]
            exact exitRes0 hw h
      · have hpp : p = numE s j := by
          have : p = s.length := by simp at n1; omega
          rw [← hpe, this, numE_end]
        have hnl := numE_le hle
        refine ⟨by omega, by omega, ?_⟩
        rw [hpp, cut_num]
        have hln : (numT (s.drop j)).length ≤ s.length := by have := numT_len (s.drop j); rw [List.length_drop] at this; omega
        refine refNumber_C (by unfold big; omega) ?_
        cases hnr : numR (numT (s.drop j)) with
        | none =>
          rw [hnr] at h
          intro nn
          try simp -implicitDefEqProofs only [zero9, f0, f1, f6, f10, ob, ws, ↓reduceIte, Nat.reduceEqDiff, Nat.reduceAdd, Nat.reduceLeDiff]
          exact exitRes0 hw h
        | some v =>
          rw [hnr] at h
          try simp -implicitDefEqProofs only [zero9, f0, f1, f6, f10, ob, ws, ↓reduceIte, Nat.reduceEqDiff, Nat.reduceAdd, Nat.reduceLeDiff]
          have e : p = j + (numT (s.drop j)).length := hpp
          rw [e]
          exact exitRes0 hw h
    · have n7 : byteAt s j = 45 := byte_eq rfl (by simpa using g7)
      have hn : byteAt s j = 45 ∨ 48 ≤ (byteAt s j).toNat ∧ (byteAt s j).toNat ≤ 57 := .inl n7
      rw [if_pos hn] at h
      rw [numS_numR] at h
      refine LoopP.intro (fun n fr σ' => ∃ (p : Nat), j ≤ p ∧ p ≤ s.length ∧ n = s.length - p ∧ numE s p = numE s j ∧ fr 0 = .str s ∧ fr 1 = .int .i64 (j : Int) ∧ fr 6 = .ref (some (σ.objs.length, 0)) ∧ fr 10 = .int .i64 (p : Int) ∧ σ' = ⟨σ.objs ++ [zero9], σ.maps, σ.toks, σ.tys ++ [53], σ.tts⟩) (s.length - j) ?_ ?_
      · exact ⟨j, by omega, by omega, rfl, rfl, rfl, rfl, rfl, rfl, rfl⟩
      rintro n fr σ' ⟨p, hpj, hp, rfl, hpe, f0, f1, f6, f10, rfl⟩
      simp -implicitDefEqProofs only [f0, f1, f6, f10, ob, ws, ↓reduceIte, Nat.reduceEqDiff, Nat.reduceAdd, Nat.reduceLeDiff]
      refine chooseK_split (fun n1 => ?_) (fun n1 => ?_) <;> simp -implicitDefEqProofs only [n1, f0, f1, f6, f10, ob, ws, ↓reduceIte, Nat.reduceEqDiff, Nat.reduceAdd, Nat.reduceLeDiff]
      · have hpl : p < s.length := by simp at n1; omega
        have hst := numE_step hpl
        refine ⟨by omega, ?_⟩
        refine r11numeric_C ?_
        simp -implicitDefEqProofs only [f0, f1, f6, f10, ob, ws, ↓reduceIte, Nat.reduceEqDiff, Nat.reduceAdd, Nat.reduceLeDiff]
        refine chooseK_split (fun n2 => ?_) (fun n2 => ?_) <;> simp -implicitDefEqProofs only [n2, f0, f1, f6, f10, ob, ws, ↓reduceIte, Nat.reduceEqDiff, Nat.reduceAdd, Nat.reduceLeDiff]
        · rw [if_pos n2] at hst
          rw [wrap64 (by omega)]
          exact ⟨s.length - (p + 1), by omega, p + 1, by omega, by omega, rfl, by rw [← hpe, hst], f0, f1, f6, rfl, rfl⟩
        · rw [if_neg (by rw [n2]; simp)] at hst
          have hpp : p = numE s j := by rw [← hpe, hst]
          have hnl := numE_le hle
          refine ⟨by omega, by omega, ?_⟩
          rw [hpp, cut_num]
          have hln : (numT (s.drop j)).length ≤ s.length := by have := numT_len (s.drop j); rw [List.length_drop] at this; omega
          refine refNumber_C (by unfold big; omega) ?_
          cases hnr : numR (numT (s.drop j)) with
          | none =>
            rw [hnr] at h
            intro nn
            try simp -implicitDefEqProofs only [zero9, f0, f1, f6, f10, ob, ws, ↓reduceIte, Nat.reduceEqDiff, Nat.reduceAdd, Nat.reduceLeDiff]
            exact exitRes0 hw h
          | some v =>
            rw [hnr] at h
            try simp -implicitDefEqProofs only [zero9, f0, f1, f6, f10, ob, ws, ↓reduceIte, Nat.reduceEqDiff, Nat.reduceAdd, Nat.reduceLeDiff]
            have e : p = j + (numT (s.drop j)).length := hpp
            rw [e]
            exact exitRes0 hw h
      · have hpp : p = numE s j := by
          have : p = s.length := by simp at n1; omega
          rw [← hpe, this, numE_end]
        have hnl := numE_le hle
        refine ⟨by omega, by omega, ?_⟩
        rw [hpp, cut_num]
        have hln : (numT (s.drop j)).length ≤ s.length := by have := numT_len (s.drop j); rw [List.length_drop] at this; omega
        refine refNumber_C (by unfold big; omega) ?_
        cases hnr : numR (numT (s.drop j)) with
        | none =>
          rw [hnr] at h
          intro nn
          try simp -implicitDefEqProofs only [zero9, f0, f1, f6, f10, ob, ws, ↓reduceIte, Nat.reduceEqDiff, Nat.reduceAdd, Nat.reduceLeDiff]
          exact exitRes0 hw h
        | some v =>
          rw [hnr] at h
          try simp -implicitDefEqProofs only [zero9, f0, f1, f6, f10, ob, ws, ↓reduceIte, Nat.reduceEqDiff, Nat.reduceAdd, Nat.reduceLeDiff]
          have e : p = j + (numT (s.drop j)).length := hpp
          rw [e]
          exact exitRes0 hw h

theorem r11value_C {s : List UInt8} (hs : s.length ≤ big) : ∀ k, k ≤ 100 → ValR s (101 - k) (valueS k s)
  | 0, _ => r11value_body hs (by omega) (by decide) (fun h => by cases h) (fun _ _ _ _ h => by cases h) (fun h => by cases h) (fun _ => rfl)
  | k + 1, h => r11value_body hs (by omega) (by rw [eq_comm, decide_eq_false_iff_not]; omega) (fun _ => by
      have := r11value_C hs k (by omega)
      rwa [show 101 - (k + 1) + 1 = 101 - k by omega]) (valueS_prog s k) (fun _ => valueS_err s k) (fun i => valueS_skip s i k)
end Go.Proofs.YtgdcdkgmeomhpaaGreatDoor

namespace Go.Proofs.YtgdcdkgmeomhpaaGreatDoor
open Go Go.Vs
set_option maxRecDepth 100000

/-- law11Match -/
def vf_law11Match : VFunc :=
  { m := 41, code := (sr [iO 2 (.mov (.c zB))] (.seq (sr [iM 9 0, iO 10 (.lenS (.t 9)), iK 11 .gtr 10 .i64 3000] (.cond (.t 11) (sr [iC 12 5 [], iM 2 12] .ret) .skip)) (sr [iM 14 0, iC 15 6 [(.t 14)], iM 13 15, iE 16 13 0, iE 17 13 1, iE 18 13 2, iO 3 (.alloc 26 [zI, zB, zI, zS, zL, zL, zI]), iS 7 3 16, iM 4 17, iM 5 18] (sr [iM 20 0, iC 21 7 [(.t 20)], iM 19 21, iE 22 19 0, iE 23 19 1, iE 24 19 2, iO 6 (.alloc 26 [zI, zB, zI, zS, zL, zL, zI]), iS 7 6 22, iM 7 23, iM 8 24] (sr [iC 25 5 [], iM 26 25, iG 27 26 true (.loadA 7 (.t 3)), iG 28 26 true (.loadA 7 (.t 6)), iH 29 26 true 8 [(.t 27), (.t 28), (.c (.bool true))], iU 30 26 29, iM 31 30, iP 32 31 true 4, iP 33 31 true 7, iR 34 31 true .eql 32 33, iU 35 31 34, iM 36 35, iP 37 36 true 5, iP 38 36 true 8, iR 39 36 true .eql 37 38, iU 40 36 39, iM 2 40] .ret))))), res := [(.t 2)] }

theorem cf_law11Match : cfunc Go.Proofs.Tryz.prog 3 = some vf_law11Match := by kernel_rfl

/-- law11Spaces -/
def vf_law11Spaces : VFunc :=
  { m := 123, code := (sr [iO 4 (.mov (.c zB))] (.seq (sr [iM 17 0, iO 18 (.lenS (.t 17)), iK 19 .gtr 18 .i64 3000] (.cond (.t 19) (sr [iC 20 5 [], iM 4 20] .ret) .skip)) (sr [iM 22 0, iC 23 7 [(.t 22)], iM 21 23, iE 24 21 0, iE 25 21 1, iE 26 21 2, iO 5 (.alloc 26 [zI, zB, zI, zS, zL, zL, zI]), iS 7 5 24, iM 6 25, iM 7 26] (.seq (sr [iM 27 7, iK 28 .neq 27 .i64 0, iM 29 28, iP 30 29 false 0, iH 31 29 false 9 [(.t 30), (.c (.str [239]))], iT 32 29 31, iM 33 32, iG 34 33 false (.loadA 7 (.t 5)), iH 35 33 false 10 [(.t 34)], iJ 36 33 false .add 35 .i64 2, iJ 37 33 false .gtr 36 .i64 100, iT 38 33 37] (.cond (.t 38) (sr [iC 39 5 [], iM 4 39] .ret) .skip)) (sr [iO 40 (.build [zS, zS, zS, zS] [((0, 1), (.c (.str [32]))), ((1, 1), (.c (.str [10]))), ((2, 1), (.c (.str [9, 13]))), ((3, 1), (.c zS))]), iM 41 1, iK 42 .rem 41 .u8 4, iO 43 (.idxL 4 (.t 40) (.t 42)), iM 8 43] (sr [iM 45 8, iM 46 0, iB 47 .add 45 46, iM 48 8, iB 49 .add 47 48, iC 50 6 [(.t 49)], iM 44 50, iE 51 44 0, iE 52 44 1, iE 53 44 2, iO 9 (.alloc 26 [zI, zB, zI, zS, zL, zL, zI]), iS 7 9 51, iM 10 52, iM 11 53] (sr [iM 55 8, iO 56 (.bin .add (.c (.str [91])) (.t 55)), iM 57 0, iB 58 .add 56 57, iM 59 8, iB 60 .add 58 59, iO 61 (.bin .add (.t 60) (.c (.str [44]))), iM 62 8, iB 63 .add 61 62, iO 64 (.bin .add (.t 63) (.c (.str [123]))), iM 65 8, iB 66 .add 64 65, iO 67 (.bin .add (.t 66) (.c (.str [34, 107, 34]))), iM 68 8, iB 69 .add 67 68, iO 70 (.bin .add (.t 69) (.c (.str [58]))), iM 71 0, iB 72 .add 70 71, iO 73 (.bin .add (.t 72) (.c (.str [125]))), iM 74 8, iB 75 .add 73 74, iO 76 (.bin .add (.t 75) (.c (.str [93]))), iC 77 6 [(.t 76)], iM 54 77, iE 78 54 0, iE 79 54 1, iE 80 54 2, iO 12 (.alloc 26 [zI, zB, zI, zS, zL, zL, zI]), iS 7 12 78, iM 13 79, iM 14 80] (.seq (sr [iM 81 11, iK 82 .neq 81 .i64 0, iM 83 82, iP 84 83 false 14, iJ 85 83 false .neq 84 .i64 0, iT 86 83 85, iM 87 86, iG 88 87 false (.fadr 4 (.t 12)), iG 89 87 false (.loadL (.t 88)), iG 90 87 false (.lenV (.t 89)), iJ 91 87 false .neq 90 .i64 2, iT 92 87 91] (.cond (.t 92) (sr [iO 4 (.mov (.c zB))] .ret) .skip)) (sr [iF 94 4 12, iL 95 94, iO 96 (.iadV 7 (.t 95) (.c (.int .i64 1))), iA 97 7 96, iC 98 11 [(.t 97), (.c (.str [107]))], iM 93 98, iE 99 93 0, iE 100 93 1, iO 15 (.alloc 26 [zI, zB, zI, zS, zL, zL, zI]), iS 7 15 99, iM 16 100] (.seq (.draw [⟨iC 101 5 [], (some [])⟩, ⟨iM 102 101, none⟩, ⟨iP 103 102 true 16, none⟩, ⟨iU 104 102 103, none⟩, ⟨iM 105 104, none⟩, ⟨iG 106 105 true (.loadA 7 (.t 5)), none⟩, ⟨iG 107 105 true (.loadA 7 (.t 9)), none⟩, ⟨iH 108 105 true 8 [(.t 106), (.t 107), (.c zB)], (some [])⟩, ⟨iU 109 105 108, none⟩, ⟨iM 110 109, none⟩, ⟨iG 111 110 true (.loadA 7 (.t 5)), none⟩, ⟨iG 112 110 true (.fadr 4 (.t 12)), none⟩, ⟨iG 113 110 true (.loadL (.t 112)), none⟩, ⟨iG 114 110 true (.iadV 7 (.t 113) (.c zI)), none⟩, ⟨iG 115 110 true (.loadA 7 (.t 114)), none⟩, ⟨iH 116 110 true 8 [(.t 111), (.t 115), (.c zB)], (some [])⟩, ⟨iU 117 110 116, none⟩, ⟨iM 118 117, none⟩, ⟨iG 119 118 true (.loadA 7 (.t 5)), none⟩, ⟨iG 120 118 true (.loadA 7 (.t 15)), none⟩, ⟨iH 121 118 true 8 [(.t 119), (.t 120), (.c zB)], (some [])⟩, ⟨iU 122 118 121, none⟩, ⟨iM 4 122, none⟩]) .ret)))))))))), res := [(.t 4)] }

theorem cf_law11Spaces : cfunc Go.Proofs.Tryz.prog 4 = some vf_law11Spaces := by kernel_rfl

end Go.Proofs.YtgdcdkgmeomhpaaGreatDoor

namespace Go.Proofs.YtgdcdkgmeomhpaaGreatDoor
open Go Go.Vs
set_option maxRecDepth 20000
attribute [local irreducible] chooseK

theorem parseV_clean (k : Nat) (s : List UInt8) : Out.clean k (.ret (parseV s)) = .ret (parseV s) := by
  unfold parseV
  split
  · simp [Out.clean, V.clean, cleanL, JV.enc, JV.clean]
  · simp [Out.clean, V.clean, cleanL, JV.enc, JV.clean]
theorem parseV_fits (n nm k : Nat) (s : List UInt8) : Out.fits n nm k (.ret (parseV s)) = true := by
  unfold parseV
  split
  · simp [Out.fits, V.fits, fitsL, JV.enc, JV.fits]
  · simp [Out.fits, V.fits, fitsL, JV.enc, JV.fits]

theorem take7r (v : JV) (r : List V) : List.take 7 (v.cells ++ r) = v.cells := by rw [List.take_append_of_le_length (by simp [JV.len]), take7]

theorem r11Parse_C {s : List UInt8} {σ : St} {Q : Out → St → Prop} (hs : s.length ≤ big) (h : Q (.ret (parseV s)) σ) : C Xc 7 [.str s] σ Q := by
  have hs' := hs
  unfold big at hs'
  refine bodyW cf_r11Parse (Eq.refl true) fun hw => ?_
  simp -implicitDefEqProofs only [vf_r11Parse, ob, ws, ↓reduceIte, Nat.reduceEqDiff, Nat.reduceAdd, Nat.reduceLeDiff]
  refine r06Has_C (i := 0) (Nat.zero_le _) hs (by decide) ?_
  rw [List.drop_zero]
  by_cases hb : hasPre s [239, 187, 191] = true
  · rw [hb]
    have h3 : 3 ≤ s.length := hasPre_len hb
    simp -implicitDefEqProofs only [ob, ws, ↓reduceIte, Nat.reduceEqDiff, Nat.reduceAdd, Nat.reduceLeDiff]
    unfold parseV parseS at h
    rw [if_pos hb] at h
    have hv := r11value_C hs 100 (Nat.le_refl _)
    refine hv 3 _ _ h3 ?_
    cases hr : valueS 100 s 3 with
    | error x =>
      rw [hr] at h
      have he : ((x.2 : Int) != 0) = true := by
        have := valueS_err s 100 3 x h3 hr
        simpa using this
      simp -implicitDefEqProofs only [resV, res9, zero7, he, ob, ws, ↓reduceIte, Nat.reduceEqDiff, Nat.reduceAdd, Nat.reduceLeDiff]
      exact exitNew hw (by rfl) (by rfl) h
    | ok r =>
      obtain ⟨v, i1⟩ := r
      rw [hr] at h
      simp only at h
      have hp := valueS_prog s 100 3 v i1 h3 hr
      have e00 : ((0 : Int) != 0) = false := rfl
      simp -implicitDefEqProofs only [resV, res9, e00, drop7a, drop8r, JV.len, ob, ws, ↓reduceIte, Nat.reduceEqDiff, Nat.reduceAdd, Nat.reduceLeDiff]
      refine r11spaces_C hp.2 hs ?_
      have hle := skipSp_le hp.2
      simp -implicitDefEqProofs only [ob, ws, ↓reduceIte, Nat.reduceEqDiff, Nat.reduceAdd, Nat.reduceLeDiff]
      refine chooseK_split (fun g1 => ?_) (fun g1 => ?_) <;> simp -implicitDefEqProofs only [g1, ob, ws, ↓reduceIte, Nat.reduceEqDiff, Nat.reduceAdd, Nat.reduceLeDiff]
      · rw [if_pos (by simp at g1; omega)] at h
        exact exitNew hw (by rfl) (by rfl) h
      · rw [if_neg (by simp at g1; omega)] at h
        simp -implicitDefEqProofs only [drop7a, drop8r, JV.len, take7r, take7, ob, ws, ↓reduceIte, Nat.reduceEqDiff, Nat.reduceAdd, Nat.reduceLeDiff]
        refine exitNew hw ?_ ?_ h
        · simp [Out.clean, V.clean, cleanL, JV.enc, JV.clean]
        · simp [Out.fits, V.fits, fitsL, JV.enc, JV.fits]
  · have hb' : hasPre s [239, 187, 191] = false := by simpa using hb
    rw [hb']
    have h0 : 0 ≤ s.length := Nat.zero_le _
    simp -implicitDefEqProofs only [ob, ws, ↓reduceIte, Nat.reduceEqDiff, Nat.reduceAdd, Nat.reduceLeDiff]
    unfold parseV parseS at h
    rw [if_neg hb] at h
    have hv := r11value_C hs 100 (Nat.le_refl _)
    refine hv 0 _ _ h0 ?_
    cases hr : valueS 100 s 0 with
    | error x =>
      rw [hr] at h
      have he : ((x.2 : Int) != 0) = true := by
        have := valueS_err s 100 0 x h0 hr
        simpa using this
      simp -implicitDefEqProofs only [resV, res9, zero7, he, ob, ws, ↓reduceIte, Nat.reduceEqDiff, Nat.reduceAdd, Nat.reduceLeDiff]
      exact exitNew hw (by rfl) (by rfl) h
    | ok r =>
      obtain ⟨v, i1⟩ := r
      rw [hr] at h
      simp only at h
      have hp := valueS_prog s 100 0 v i1 h0 hr
      have e00 : ((0 : Int) != 0) = false := rfl
      simp -implicitDefEqProofs only [resV, res9, e00, drop7a, drop8r, JV.len, ob, ws, ↓reduceIte, Nat.reduceEqDiff, Nat.reduceAdd, Nat.reduceLeDiff]
      refine r11spaces_C hp.2 hs ?_
      have hle := skipSp_le hp.2
      simp -implicitDefEqProofs only [ob, ws, ↓reduceIte, Nat.reduceEqDiff, Nat.reduceAdd, Nat.reduceLeDiff]
      refine chooseK_split (fun g1 => ?_) (fun g1 => ?_) <;> simp -implicitDefEqProofs only [g1, ob, ws, ↓reduceIte, Nat.reduceEqDiff, Nat.reduceAdd, Nat.reduceLeDiff]
      · rw [if_pos (by simp at g1; omega)] at h
        exact exitNew hw (by rfl) (by rfl) h
      · rw [if_neg (by simp at g1; omega)] at h
        simp -implicitDefEqProofs only [drop7a, drop8r, JV.len, take7r, take7, ob, ws, ↓reduceIte, Nat.reduceEqDiff, Nat.reduceAdd, Nat.reduceLeDiff]
        refine exitNew hw ?_ ?_ h
        · simp [Out.clean, V.clean, cleanL, JV.enc, JV.clean]
        · simp [Out.fits, V.fits, fitsL, JV.enc, JV.fits]

theorem strS_len (s : List UInt8) (a : Nat) : ∀ (k i : Nat) (b : List UInt8), i ≤ s.length → (strS s a k i b).2.2 = 0 → (strS s a k i b).1.length + i + 1 ≤ (strS s a k i b).2.1 + b.length
  | 0, i, b, _, h => by cases h
  | k + 1, i, b, hi, h => by
    unfold strS at h ⊢
    split
    · rename_i h0; rw [if_pos h0] at h; cases h
    rename_i h0
    rw [if_neg h0] at h
    dsimp only at h ⊢
    split
    · rename_i h1; rw [if_pos h1] at h; cases h
    rename_i h1
    rw [if_neg h1] at h
    have hd := decT_enc (s.drop i) h1
    rw [List.length_drop] at hd
    split
    · rename_i h2; rw [if_pos h2] at h; cases h
    rename_i h2
    rw [if_neg h2] at h
    split
    · dsimp only; omega
    rename_i h3
    rw [if_neg h3] at h
    split
    · rename_i h4
      rw [if_pos h4] at h
      split
      · rename_i h5; rw [if_pos h5] at h; cases h
      rename_i h5
      rw [if_neg h5] at h
      split
      · rename_i h6; rw [if_pos h6] at h; cases h
      rename_i h6
      rw [if_neg h6] at h
      have hq := seqS_enc (s.drop i) (by rw [List.length_drop]; omega) h6
      rw [List.length_drop] at hq
      have := strS_len s a k _ _ (by omega) h
      rw [List.length_append] at this
      omega
    · rename_i h4
      rw [if_neg h4] at h
      have := strS_len s a k _ _ (by omega) h
      rw [List.length_append] at this
      omega
theorem strP_len {s : List UInt8} {i : Nat} (h : (strP s i).2.2 = 0) : (strP s i).1.length + i + 2 ≤ (strP s i).2.1 := by
  unfold strP at h ⊢
  split
  · rename_i h0
    rw [if_pos h0] at h
    have := strS_len s i _ _ _ (by omega) h
    simp only [List.length_nil] at this
    omega
  · rename_i h0; rw [if_neg h0] at h; cases h

/-- A value is no heavier than its text. -/
def WtR (s : List UInt8) (rec : Nat → Res JV) : Prop := ∀ i v i1, i ≤ s.length → rec i = .ok (v, i1) → i + v.wt ≤ i1
theorem loopS_wt {α : Type} {s : List UInt8} {e : UInt8} {step : Nat → α → Res α} {w : α → Nat} (hst : ∀ i a a' i1, i ≤ s.length → step i a = .ok (a', i1) → i ≤ i1 ∧ i1 ≤ s.length)
    (hw : ∀ i a a' i1, i ≤ s.length → step i a = .ok (a', i1) → i + w a' ≤ i1 + w a) : ∀ (n i : Nat) (a a' : α) (i1 : Nat), i ≤ s.length → loopS step s e n i a = .ok (a', i1) → i + w a' + 1 ≤ i1 + w a
  | 0, _, _, _, _, _, h => by cases h
  | n + 1, i, a, a', i1, hi, h => by
    rw [loopS] at h
    cases hs : step i a with
    | error y => rw [hs] at h; cases h
    | ok r =>
      obtain ⟨a2, i2⟩ := r
      rw [hs] at h
      have hp := hst i a a2 i2 hi hs
      have hw2 := hw i a a2 i2 hi hs
      have hl := skipSp_le hp.2
      have hg := skipSp_ge s i2
      simp only at h
      split at h
      · cases h; omega
      split at h
      · rename_i hc
        have := byteAt_lt (by decide) hc
        have := loopS_wt hst hw n _ a2 a' i1 (by omega) h
        omega
      · cases h
theorem elemS_wt {α : Type} {s : List UInt8} {e : UInt8} {step : Nat → α → Res α} {w : α → Nat} (hst : ∀ i a a' i1, i ≤ s.length → step i a = .ok (a', i1) → i ≤ i1 ∧ i1 ≤ s.length)
    (hw : ∀ i a a' i1, i ≤ s.length → step i a = .ok (a', i1) → i + w a' ≤ i1 + w a) {i i1 : Nat} {a a' : α} (hi : i < s.length) (h : elemS step s e i a = .ok (a', i1)) : i + w a' + 2 ≤ i1 + w a := by
  have hl := skipSp_le (s := s) (i := i + 1) (by omega)
  have hg := skipSp_ge s (i + 1)
  unfold elemS at h
  split at h
  · cases h; omega
  · have := loopS_wt hst hw _ _ _ _ _ hl h
    omega
theorem wtL_app (a b : List JV) : wtL (a ++ b) = wtL a + wtL b := by
  induction a with
  | nil => simp [wtL]
  | cons v r ih => simp only [List.cons_append, wtL, ih]; omega
theorem wtM_app (a b : List JM) : wtM (a ++ b) = wtM a + wtM b := by
  induction a with
  | nil => simp [wtM]
  | cons v r ih => simp only [List.cons_append, wtM, ih]; omega
theorem arrStep_wt {s : List UInt8} {rec : Nat → Res JV} (h : WtR s rec) : ∀ i a a' i1, i ≤ s.length → arrStep rec i a = .ok (a', i1) → i + wtL a' ≤ i1 + wtL a := by
  intro i a a' i1 hi hs
  unfold arrStep at hs
  cases hr : rec i with
  | error y => rw [hr] at hs; cases hs
  | ok r =>
    obtain ⟨v, i2⟩ := r
    rw [hr] at hs
    cases hs
    have := h i v i1 hi hr
    rw [wtL_app, wtL, wtL]
    omega
theorem keyS_wt {s : List UInt8} {j i1 : Nat} {a : List JM} {k : List UInt8} (h : keyS s j a = .ok (k, i1)) : j + k.length + 3 ≤ i1 := by
  unfold keyS at h
  split at h
  · cases h
  split at h
  · cases h
  rename_i h0
  have h0 : (strP s j).2.2 = 0 := Classical.byContradiction h0
  have := strP_len h0
  have := skipSp_ge s (strP s j).2.1
  split at h
  · cases h
  split at h
  · cases h; omega
  · cases h
theorem objStep_wt {s : List UInt8} {rec : Nat → Res JV} (h : WtR s rec) : ∀ i a a' i1, i ≤ s.length → objStep rec s i a = .ok (a', i1) → i + wtM a' ≤ i1 + wtM a := by
  intro i a a' i1 hi hs
  unfold objStep at hs
  rw [memS_key] at hs
  have hle := skipSp_le hi
  have hge := skipSp_ge s i
  cases hk : keyS s (skipSp s i) a with
  | error y => rw [hk] at hs; cases hs
  | ok r =>
    obtain ⟨k, i2⟩ := r
    rw [hk] at hs
    simp only at hs
    have hkl := keyS_le hle hk
    have hkw := keyS_wt hk
    cases hr : rec i2 with
    | error y => rw [hr] at hs; cases hs
    | ok r =>
      obtain ⟨v, i3⟩ := r
      rw [hr] at hs
      cases hs
      have := h i2 v i1 hkl.2 hr
      rw [wtM_app, wtM, wtM, JM.wt]
      omega
theorem wordS_wt {s name : List UInt8} {j i1 : Nat} {v v' : JV} (hn : 1 ≤ name.length) (hv : v.wt ≤ 1) (h : wordS s j name v = .ok (v', i1)) : j + v'.wt ≤ i1 := by
  unfold wordS at h
  split at h
  · cases h; omega
  · cases h
theorem jv_wt (k : Int) (b : Bool) (n : Int) (s : List UInt8) (is : List JV) (ms : List JM) (a : Nat) : (jv k b n s is ms a).wt = 1 + s.length + wtL is + wtM ms := by rw [jv, JV.wt]
theorem valueF_wt {lim : Bool} {rec : Nat → Res JV} {s : List UInt8} (hp : ProgR s rec) (h : WtR s rec) : WtR s (valueF lim rec s) := by
  intro i v i1 hi hv
  have hl := skipSp_le hi
  have hg := skipSp_ge s i
  unfold valueF at hv
  dsimp only at hv
  split at hv
  · cases hv
  split at hv
  · have := wordS_wt (by decide) (by rw [jv_wt]; simp [wtL, wtM]) hv; omega
  split at hv
  · have := wordS_wt (by decide) (by rw [jv_wt]; simp [wtL, wtM]) hv; omega
  split at hv
  · have := wordS_wt (by decide) (by rw [jv_wt]; simp [wtL, wtM]) hv; omega
  split at hv
  · split at hv
    · rename_i h0
      have := strP_len h0
      cases hv
      rw [jv_wt]
      simp [wtL, wtM]
      omega
    · cases hv
  split at hv
  · split at hv
    · rename_i n hn
      cases hv
      have : (numT (s.drop (skipSp s i))) ≠ [] := fun e => by rw [e] at hn; cases hn
      have := List.length_pos_iff.2 this
      rw [jv_wt]
      simp [wtL, wtM]
      omega
    · cases hv
  split at hv
  · rename_i hb
    have hlt := byteAt_lt (by decide) hb
    split at hv
    · rename_i is i2 he
      cases hv
      have := elemS_wt (w := wtL) (arrStep_prog hp) (arrStep_wt h) hlt he
      rw [wtL] at this
      rw [jv_wt]
      simp [wtM]
      omega
    · cases hv
  split at hv
  · rename_i hb
    have hlt := byteAt_lt (by decide) hb
    split at hv
    · rename_i ms i2 he
      cases hv
      have := elemS_wt (w := wtM) (objStep_prog hp) (objStep_wt h) hlt he
      rw [wtM] at this
      rw [jv_wt]
      simp [wtL]
      omega
    · cases hv
  · cases hv
theorem valueS_wt (s : List UInt8) : ∀ k, WtR s (valueS k s)
  | 0 => valueF_wt (lim := true) (rec := fun _ => .error (0, 0)) (fun _ _ _ _ h => by cases h) (fun _ _ _ _ h => by cases h)
  | k + 1 => valueF_wt (lim := false) (valueS_prog s k) (valueS_wt s k)
theorem parseS_wt {s : List UInt8} {v : JV} (h : parseS s = .ok v) : v.wt ≤ s.length := by
  unfold parseS at h
  cases hr : valueS 100 s (if hasPre s [239, 187, 191] then 3 else 0) with
  | error x => rw [hr] at h; cases h
  | ok r =>
    obtain ⟨w, i⟩ := r
    rw [hr] at h
    have hi : (if hasPre s [239, 187, 191] then 3 else 0) ≤ s.length := by
      split
      · rename_i hb; exact hasPre_len hb
      · omega
    have hp := valueS_prog s 100 _ w i hi hr
    have hw := valueS_wt s 100 _ w i hi hr
    simp only at h
    split at h
    · cases h
    · cases h; omega

theorem law11Match_C {s : List UInt8} {σ : St} {Q : Out → St → Prop} (hsz : s.length ≤ 9223372036854775807) (h : Q (.ret (.bool true)) σ) : C Xc 3 [.str s] σ Q := by
  refine bodyW cf_law11Match (Eq.refl true) fun hw => ?_
  simp -implicitDefEqProofs only [vf_law11Match, ob, ws, ↓reduceIte, Nat.reduceEqDiff, Nat.reduceAdd, Nat.reduceLeDiff]
  refine chooseK_split (fun g1 => ?_) (fun g1 => ?_) <;> simp -implicitDefEqProofs only [g1, ob, ws, ↓reduceIte, Nat.reduceEqDiff, Nat.reduceAdd, Nat.reduceLeDiff]
  · refine alive_C ?_
    simp -implicitDefEqProofs only [ob, ws, ↓reduceIte, Nat.reduceEqDiff, Nat.reduceAdd, Nat.reduceLeDiff]
    exact .inl h
  have hl : s.length ≤ 3000 := by simp at g1; omega
  refine parse_C (by unfold big; omega) ?_
  cases hp : parseS s with
  | error x =>
    rw [parseV_error hp]
    simp -implicitDefEqProofs only [JV.enc, JV.len, ob, ws, ↓reduceIte, Nat.reduceEqDiff, Nat.reduceAdd, Nat.reduceLeDiff]
    refine r11Parse_C (by unfold big; omega) ?_
    rw [parseV_error hp]
    simp -implicitDefEqProofs only [JV.enc, JV.len, ob, ws, ↓reduceIte, Nat.reduceEqDiff, Nat.reduceAdd, Nat.reduceLeDiff]
    refine alive_C ?_
    simp -implicitDefEqProofs only [JV.enc, JV.len, take7, ob, ws, ↓reduceIte, Nat.reduceEqDiff, Nat.reduceAdd, Nat.reduceLeDiff]
    refine refEqual_C true _ jnull jnull (Nat.le_refl _) (by decide) _ _ ?_
    rw [eqJ_refl]
    simp -implicitDefEqProofs only [ob, beq_self_eq_true, ws, ↓reduceIte, Nat.reduceEqDiff, Nat.reduceAdd, Nat.reduceLeDiff]
    exact exitNew hw (by rfl) (by rfl) h
  | ok v =>
    rw [parseV_ok hp]
    have hvw := parseS_wt hp
    simp -implicitDefEqProofs only [JV.enc, JV.len, ob, ws, ↓reduceIte, Nat.reduceEqDiff, Nat.reduceAdd, Nat.reduceLeDiff]
    refine r11Parse_C (by unfold big; omega) ?_
    rw [parseV_ok hp]
    simp -implicitDefEqProofs only [JV.enc, JV.len, ob, ws, ↓reduceIte, Nat.reduceEqDiff, Nat.reduceAdd, Nat.reduceLeDiff]
    refine alive_C ?_
    simp -implicitDefEqProofs only [JV.enc, JV.len, take7, ob, ws, ↓reduceIte, Nat.reduceEqDiff, Nat.reduceAdd, Nat.reduceLeDiff]
    refine refEqual_C true _ v v (Nat.le_refl _) (by unfold big; omega) _ _ ?_
    rw [eqJ_refl]
    simp -implicitDefEqProofs only [ob, beq_self_eq_true, ws, ↓reduceIte, Nat.reduceEqDiff, Nat.reduceAdd, Nat.reduceLeDiff]
    exact exitNew hw (by rfl) (by rfl) h
end Go.Proofs.YtgdcdkgmeomhpaaGreatDoor

namespace Go.Proofs.YtgdcdkgmeomhpaaGreatDoor
open Go Go.Vs
set_option maxRecDepth 20000

mutual
/-- The value, its offsets moved. -/
def shiftJ (p : Nat) : JV → JV
  | .mk k b n s ni is nm ms a => .mk k b n s ni (shiftL p is) nm (shiftM p ms) (p + a)
def shiftL (p : Nat) : List JV → List JV
  | [] => []
  | v :: r => shiftJ p v :: shiftL p r
def shiftMm (p : Nat) : JM → JM
  | .mk key v a => .mk key (shiftJ p v) (p + a)
def shiftM (p : Nat) : List JM → List JM
  | [] => []
  | m :: r => shiftMm p m :: shiftM p r
end
theorem shiftL_app (p : Nat) (a b : List JV) : shiftL p (a ++ b) = shiftL p a ++ shiftL p b := by induction a with | nil => rfl | cons v r ih => simp [shiftL, ih]
theorem shiftM_app (p : Nat) (a b : List JM) : shiftM p (a ++ b) = shiftM p a ++ shiftM p b := by induction a with | nil => rfl | cons v r ih => simp [shiftM, ih]
theorem shift_jv (p : Nat) (k : Int) (b : Bool) (n : Int) (s : List UInt8) (is : List JV) (ms : List JM) (a : Nat) : shiftJ p (jv k b n s is ms a) = jv k b n s (shiftL p is) (shiftM p ms) (p + a) := by
  simp [jv, shiftJ]
theorem shiftMm_key (p : Nat) (m : JM) : (shiftMm p m).keyOf = m.keyOf := by cases m; rfl
theorem shiftM_any (p : Nat) (key : List UInt8) : ∀ l : List JM, (shiftM p l).any (fun m => m.keyOf == key) = l.any (fun m => m.keyOf == key)
  | [] => rfl
  | m :: r => by rw [shiftM, List.any_cons, List.any_cons, shiftMm_key, shiftM_any p key r]
mutual
theorem eqJ_shift (p : Nat) : ∀ v, eqJ false v (shiftJ p v) = true
  | .mk k b n s ni is nm ms a => by simp [shiftJ, eqJ, eqL_shift p is, eqM_shift p ms]
theorem eqL_shift (p : Nat) : ∀ l, eqL false l (shiftL p l) = true
  | [] => by rw [shiftL, eqL]
  | v :: r => by simp [shiftL, eqL, eqJ_shift p v, eqL_shift p r]
theorem eqMm_shift (p : Nat) : ∀ m, eqMm false m (shiftMm p m) = true
  | .mk k v a => by simp [shiftMm, eqMm, eqJ_shift p v]
theorem eqM_shift (p : Nat) : ∀ l, eqM false l (shiftM p l) = true
  | [] => by rw [shiftM, eqM]
  | v :: r => by simp [shiftM, eqM, eqMm_shift p v, eqM_shift p r]
end

theorem bN_app {l : List UInt8} {k : Nat} (q : List UInt8) (h : k < l.length) : bN (l ++ q) k = bN l k := by
  simp [bN, List.getD_eq_getElem?_getD, List.getElem?_append_left h]
theorem bN_ge {l : List UInt8} {k : Nat} (h : l.length ≤ k) : bN l k = 0 := by
  simp [bN, List.getD_eq_getElem?_getD, List.getElem?_eq_none h]

theorem decT_app (l q : List UInt8) (h : (decT l).2 ≠ 0) : decT (l ++ q) = decT l := by
  have hl : l ≠ [] := fun e => by rw [e] at h; exact h rfl
  have hlp := List.length_pos_iff.2 hl
  rw [decT_W l hl] at h ⊢
  rw [decT_W _ (by simp [hl])]
  rw [bN_app q hlp, List.length_append]
  have c1 := fun h1 : 1 < l.length => bN_app q h1
  have c2 := fun h1 : 2 < l.length => bN_app q h1
  have c3 := fun h1 : 3 < l.length => bN_app q h1
  generalize bN (l ++ q) 1 = B' at *
  generalize bN (l ++ q) 2 = C' at *
  generalize bN (l ++ q) 3 = D' at *
  generalize bN l 0 = A at *
  generalize bN l 1 = B at *
  generalize bN l 2 = C at *
  generalize bN l 3 = D at *
  generalize l.length = n at *
  generalize q.length = m at *
  unfold decW at h ⊢
  by_cases h1 : A < 128
  · rw [if_pos h1, if_pos h1]
  rw [if_neg h1] at h
  rw [if_neg h1, if_neg h1]
  by_cases h2 : A / 32 = 6
  · rw [if_pos h2] at h
    rw [if_pos h2, if_pos h2]
    split at h
    · rename_i h3
      have := c1 (by omega)
      rw [if_pos h3, if_pos (by omega)]
      rw [this]
    · exact absurd rfl h
  rw [if_neg h2] at h
  rw [if_neg h2, if_neg h2]
  by_cases h4 : A / 16 = 14
  · rw [if_pos h4] at h
    rw [if_pos h4, if_pos h4]
    split at h
    · rename_i h3
      have := c1 (by omega)
      have := c2 (by omega)
      subst B' C'
      rw [if_pos h3, if_pos ⟨by omega, by omega, h3.2.2⟩]
    · exact absurd rfl h
  rw [if_neg h4] at h
  rw [if_neg h4, if_neg h4]
  by_cases h5 : A / 8 = 30
  · rw [if_pos h5] at h
    rw [if_pos h5, if_pos h5]
    split at h
    · rename_i h3
      have := c1 (by omega)
      have := c2 (by omega)
      have := c3 (by omega)
      subst B' C' D'
      rw [if_pos h3, if_pos ⟨by omega, by omega, by omega, h3.2.2.2⟩]
    · exact absurd rfl h
  rw [if_neg h5] at h
  exact absurd rfl h

theorem unitS_app {l : List UInt8} {r : Nat} (q : List UInt8) (h : unitS l = some r) : unitS (l ++ q) = some r := by
  have hl := unitS_len h
  unfold unitS at h ⊢
  rw [List.length_append, List.take_append_of_le_length (by omega), List.drop_append_of_le_length (by omega), List.take_append_of_le_length (by rw [List.length_drop]; omega)]
  split at h
  · rename_i h1; rw [if_pos ⟨by omega, h1.2⟩]; exact h
  · cases h
theorem seqS_app {l : List UInt8} (q : List UInt8) (hl : 2 ≤ l.length) (h : (seqS l).2 ≠ 0) : seqS (l ++ q) = seqS l := by
  unfold seqS at h ⊢
  rw [bN_app q (by omega)]
  split
  · rfl
  rename_i h0
  rw [if_neg h0] at h
  split
  · rfl
  rename_i hv
  rw [hv] at h
  simp only at h
  cases hu : unitS l with
  | none => rw [hu] at h; exact absurd rfl h
  | some r =>
    rw [hu] at h
    rw [unitS_app q hu]
    simp only at h ⊢
    have hlen := unitS_len hu
    split
    · rfl
    rename_i h1
    rw [if_neg h1] at h
    split
    · rfl
    rename_i h2
    rw [if_neg h2] at h
    rw [List.drop_append_of_le_length hlen]
    cases hq : unitS (l.drop 6) with
    | none => rw [hq] at h; exact absurd rfl h
    | some t => rw [unitS_app q hq]

section
variable {pre s post : List UInt8}

theorem drop_emb {i : Nat} (h : i ≤ s.length) : (pre ++ (s ++ post)).drop (pre.length + i) = s.drop i ++ post := by
  rw [← List.drop_drop, List.drop_left' rfl, List.drop_append_of_le_length h]
theorem byteAt_emb {i : Nat} (h : i < s.length) : byteAt (pre ++ (s ++ post)) (pre.length + i) = byteAt s i := by
  unfold byteAt
  rw [List.getD_eq_getElem?_getD, List.getD_eq_getElem?_getD, List.getElem?_append_right (by omega), Nat.add_sub_cancel_left, List.getElem?_append_left h]
theorem bN_emb {i : Nat} (h : i < s.length) : bN (pre ++ (s ++ post)) (pre.length + i) = bN s i := congrArg UInt8.toNat (byteAt_emb h)
theorem takeWhile_app (f : UInt8 → Bool) (l q : List UInt8) (h : (l.takeWhile f).length < l.length ∨ q.takeWhile f = []) : (l ++ q).takeWhile f = l.takeWhile f := by
  induction l with
  | nil => rcases h with h | h; exact absurd h (by simp); simpa using h
  | cons c r ih =>
    rw [List.cons_append, List.takeWhile_cons, List.takeWhile_cons]
    split
    · rename_i hc
      rw [List.takeWhile_cons, if_pos hc] at h
      rw [ih (by simpa using h)]
    · rfl
theorem skip_emb {i : Nat} (h : i ≤ s.length) (hs : skipSp s i < s.length) : skipSp (pre ++ (s ++ post)) (pre.length + i) = pre.length + skipSp s i := by
  unfold skipSp at hs ⊢
  rw [drop_emb h, takeWhile_app _ _ _ (.inl (by rw [List.length_drop]; omega))]
  omega

theorem strS_emb (at0 : Nat) : ∀ (k k' i : Nat) (b : List UInt8), k ≤ k' → i ≤ s.length → (strS s at0 k i b).2.2 = 0 → strS (pre ++ (s ++ post)) (pre.length + at0) k' (pre.length + i) b = ((strS s at0 k i b).1, pre.length + (strS s at0 k i b).2.1, 0)
  | 0, _, _, _, _, _, h => by cases h
  | k + 1, 0, _, _, h, _, _ => by omega
  | k + 1, k' + 1, i, b, hk, hi, h => by
    rw [strS] at h ⊢
    rw [strS]
    have hT : (pre ++ (s ++ post)).length = pre.length + (s.length + post.length) := by simp
    by_cases h0 : s.length ≤ i
    · rw [if_pos h0] at h; cases h
    rw [if_neg h0] at h
    rw [if_neg (by omega), if_neg h0]
    dsimp only at h ⊢
    rw [drop_emb hi]
    by_cases h1 : (decT (s.drop i)).2 = 0
    · rw [if_pos h1] at h; cases h
    rw [if_neg h1] at h
    rw [decT_app _ _ h1, if_neg h1, if_neg h1]
    have hd := decT_enc (s.drop i) h1
    rw [List.length_drop] at hd
    by_cases h2 : (decT (s.drop i)).1 < 32
    · rw [if_pos h2] at h; cases h
    rw [if_neg h2] at h
    rw [if_neg h2, if_neg h2]
    by_cases h3 : (decT (s.drop i)).1 = 34
    · rw [if_pos h3, if_pos h3]; simp [Nat.add_assoc]
    rw [if_neg h3] at h
    rw [if_neg h3, if_neg h3]
    by_cases h4 : (decT (s.drop i)).1 = 92
    · rw [if_pos h4] at h
      rw [if_pos h4, if_pos h4]
      by_cases h5 : i + 1 = s.length
      · rw [if_pos h5] at h; cases h
      rw [if_neg h5] at h
      rw [if_neg (by omega), if_neg h5]
      by_cases h6 : (seqS (s.drop i)).2 = 0
      · rw [if_pos h6] at h; cases h
      rw [if_neg h6] at h
      rw [seqS_app _ (by rw [List.length_drop]; omega) h6, if_neg h6, if_neg h6]
      have hq := seqS_enc (s.drop i) (by rw [List.length_drop]; omega) h6
      rw [List.length_drop] at hq
      rw [Nat.add_assoc]
      exact strS_emb at0 k k' _ _ (by omega) (by omega) h
    · rw [if_neg h4] at h
      rw [if_neg h4, if_neg h4, Nat.add_assoc]
      exact strS_emb at0 k k' _ _ (by omega) (by omega) h
theorem strP_emb {i : Nat} (hi : i ≤ s.length) (h : (strP s i).2.2 = 0) : strP (pre ++ (s ++ post)) (pre.length + i) = ((strP s i).1, pre.length + (strP s i).2.1, 0) := by
  unfold strP at h ⊢
  by_cases h0 : i < s.length ∧ bN s i = 34
  · rw [if_pos h0] at h
    rw [if_pos h0, if_pos ⟨by simp; omega, by rw [bN_emb h0.1]; exact h0.2⟩]
    rw [Nat.add_assoc]
    exact strS_emb i _ _ _ _ (by simp; omega) (by omega) h
  · rw [if_neg h0] at h; cases h
theorem hasPre_app {l q name : List UInt8} (h : hasPre l name = true) : hasPre (l ++ q) name = true := by
  have hl := hasPre_len h
  unfold hasPre at h ⊢
  rw [List.take_append_of_le_length hl]
  exact h
end
end Go.Proofs.YtgdcdkgmeomhpaaGreatDoor

namespace Go.Proofs.YtgdcdkgmeomhpaaGreatDoor
open Go Go.Vs
set_option maxRecDepth 20000

theorem depthL_app (a b : List JV) : depthL (a ++ b) = max (depthL a) (depthL b) := by
  induction a with
  | nil => simp [depthL]
  | cons v r ih => simp only [List.cons_append, depthL, ih]; omega
theorem depthM_app (a b : List JM) : depthM (a ++ b) = max (depthM a) (depthM b) := by
  induction a with
  | nil => simp [depthM]
  | cons v r ih => simp only [List.cons_append, depthM, ih]; omega
theorem depth_pos (v : JV) : 1 ≤ v.depth := by cases v; rw [JV.depth]; omega

section
variable {pre s post : List UInt8}

theorem loopS_mono {α : Type} {e : UInt8} {step : Nat → α → Res α} {G : α → Prop} (hst : ∀ i a a' i1, i ≤ s.length → step i a = .ok (a', i1) → i ≤ i1 ∧ i1 ≤ s.length)
    (hG : ∀ i a a' i1, i ≤ s.length → step i a = .ok (a', i1) → G a' → G a) : ∀ (n i : Nat) (a a' : α) (i1 : Nat), i ≤ s.length → loopS step s e n i a = .ok (a', i1) → G a' → G a
  | 0, _, _, _, _, _, h, _ => by cases h
  | n + 1, i, a, a', i1, hi, h, hg => by
    rw [loopS] at h
    cases hs : step i a with
    | error y => rw [hs] at h; cases h
    | ok r =>
      obtain ⟨a2, i2⟩ := r
      rw [hs] at h
      have hp := hst i a a2 i2 hi hs
      have hl := skipSp_le hp.2
      simp only at h
      split at h
      · cases h; exact hG i a a' i2 hi hs hg
      split at h
      · rename_i hc
        have := byteAt_lt (by decide) hc
        exact hG i a a2 i2 hi hs (loopS_mono hst hG n _ a2 a' i1 (by omega) h hg)
      · cases h

theorem loopS_emb {α : Type} {e : UInt8} (he : e ≠ 0) {step step' : Nat → α → Res α} {F : α → α} {G : α → Prop} (hst : ∀ i a a' i1, i ≤ s.length → step i a = .ok (a', i1) → i ≤ i1 ∧ i1 ≤ s.length)
    (hG : ∀ i a a' i1, i ≤ s.length → step i a = .ok (a', i1) → G a' → G a)
    (hE : ∀ i a a' i1, i ≤ s.length → step i a = .ok (a', i1) → G a' → step' (pre.length + i) (F a) = .ok (F a', pre.length + i1)) :
    ∀ (n n' i : Nat) (a a' : α) (i1 : Nat), n ≤ n' → i ≤ s.length → loopS step s e n i a = .ok (a', i1) → G a' → loopS step' (pre ++ (s ++ post)) e n' (pre.length + i) (F a) = .ok (F a', pre.length + i1)
  | 0, _, _, _, _, _, _, _, h, _ => by cases h
  | n + 1, 0, _, _, _, _, h, _, _, _ => by omega
  | n + 1, n' + 1, i, a, a', i1, hn, hi, h, hg => by
    rw [loopS] at h ⊢
    cases hs : step i a with
    | error y => rw [hs] at h; cases h
    | ok r =>
      obtain ⟨a2, i2⟩ := r
      rw [hs] at h
      have hp := hst i a a2 i2 hi hs
      have hl := skipSp_le hp.2
      simp only at h
      by_cases h1 : byteAt s (skipSp s i2) = e
      · have hlt := byteAt_lt he h1
        rw [if_pos h1] at h
        cases h
        rw [hE i a a' i2 hi hs hg]
        simp only
        rw [skip_emb hp.2 hlt, byteAt_emb hlt, if_pos h1]
        simp [Nat.add_assoc]
      rw [if_neg h1] at h
      by_cases h2 : byteAt s (skipSp s i2) = 44
      · have hlt := byteAt_lt (by decide) h2
        rw [if_pos h2] at h
        have hg2 := loopS_mono hst hG n _ a2 a' i1 (by omega) h hg
        rw [hE i a a2 i2 hi hs hg2]
        simp only
        rw [skip_emb hp.2 hlt, byteAt_emb hlt, if_neg h1, if_pos h2, Nat.add_assoc]
        exact loopS_emb he hst hG hE n n' _ a2 a' i1 (by omega) (by omega) h hg
      · rw [if_neg h2] at h; cases h

theorem elemS_emb {α : Type} {e : UInt8} (he : e ≠ 0) {step step' : Nat → α → Res α} {F : α → α} {G : α → Prop} (hst : ∀ i a a' i1, i ≤ s.length → step i a = .ok (a', i1) → i ≤ i1 ∧ i1 ≤ s.length)
    (hG : ∀ i a a' i1, i ≤ s.length → step i a = .ok (a', i1) → G a' → G a)
    (hE : ∀ i a a' i1, i ≤ s.length → step i a = .ok (a', i1) → G a' → step' (pre.length + i) (F a) = .ok (F a', pre.length + i1))
    (hend : ∀ a, step s.length a = .error (wrongR s s.length) ∨ ∃ x, step s.length a = .error x)
    {i i1 : Nat} {a a' : α} (hi : i < s.length) (h : elemS step s e i a = .ok (a', i1)) (hg : G a') : elemS step' (pre ++ (s ++ post)) e (pre.length + i) (F a) = .ok (F a', pre.length + i1) := by
  have hle := skipSp_le (s := s) (i := i + 1) (by omega)
  unfold elemS at h ⊢
  rw [Nat.add_assoc]
  by_cases h1 : byteAt s (skipSp s (i + 1)) = e
  · have hlt := byteAt_lt he h1
    rw [if_pos h1] at h
    cases h
    rw [skip_emb (by omega) hlt, byteAt_emb hlt, if_pos h1]
    simp [Nat.add_assoc]
  rw [if_neg h1] at h
  by_cases hj : skipSp s (i + 1) = s.length
  · rw [hj] at h
    obtain ⟨n, hn⟩ : ∃ n, s.length + 1 - s.length = n + 1 := ⟨0, by omega⟩
    rw [hn, loopS] at h
    rcases hend a with hx | ⟨x, hx⟩ <;> (rw [hx] at h; cases h)
  have hlt : skipSp s (i + 1) < s.length := by omega
  rw [skip_emb (by omega) hlt, byteAt_emb hlt, if_neg h1]
  exact loopS_emb he hst hG hE _ _ _ a a' i1 (by simp; omega) hle h hg

theorem keyS_emb {j i1 : Nat} {a : List JM} {k : List UInt8} (hj : j ≤ s.length) (h : keyS s j a = .ok (k, i1)) : keyS (pre ++ (s ++ post)) (pre.length + j) (shiftM pre.length a) = .ok (k, pre.length + i1) := by
  unfold keyS at h ⊢
  by_cases h1 : byteAt s j ≠ 34
  · rw [if_pos h1] at h; cases h
  have h1' : byteAt s j = 34 := Classical.byContradiction h1
  have hjl := byteAt_lt (by decide) h1'
  rw [if_neg h1] at h
  rw [byteAt_emb hjl, if_neg h1]
  by_cases h2 : (strP s j).2.2 ≠ 0
  · rw [if_pos h2] at h; cases h
  have h2' : (strP s j).2.2 = 0 := Classical.byContradiction h2
  have hsp := (strP_le hj).1
  rw [if_neg h2] at h
  rw [strP_emb hj h2', if_neg (by simp)]
  simp only [shiftM_any]
  by_cases h3 : a.any (fun m => m.keyOf == (strP s j).1) = true
  · rw [if_pos h3] at h; cases h
  rw [if_neg h3] at h
  rw [if_neg h3]
  by_cases h4 : byteAt s (skipSp s (strP s j).2.1) = 58
  · have hlt := byteAt_lt (by decide) h4
    rw [if_pos h4] at h
    cases h
    rw [skip_emb hsp hlt, byteAt_emb hlt, if_pos h4]
    simp [Nat.add_assoc]
  · rw [if_neg h4] at h; cases h

theorem valueF_end {lim : Bool} {rec : Nat → Res JV} {i : Nat} (h : skipSp s i = s.length) : valueF lim rec s i = .error (wrongR s s.length) := by
  unfold valueF
  dsimp only
  rw [h, byteAt_end (Nat.le_refl _), if_neg (by cases lim <;> decide), if_neg (by decide), if_neg (by decide), if_neg (by decide), if_neg (by decide), if_neg (by decide), if_neg (by decide), if_neg (by decide)]
theorem valueS_end (k : Nat) {i : Nat} (h : skipSp s i = s.length) : valueS k s i = .error (wrongR s s.length) := by
  cases k with
  | zero => exact valueF_end h
  | succ k => exact valueF_end h
theorem valueS_zero {i : Nat} {v : JV} {i1 : Nat} (h : valueS 0 s i = .ok (v, i1)) : False := by
  rw [valueS, valueF] at h
  try dsimp only at h
  cases hb : beginsB (byteAt s (skipSp s i)) with
  | true => rw [hb, if_pos (by decide)] at h; cases h
  | false =>
    obtain ⟨h1, h2, h3, h4, h5, h6, h7, h8⟩ := begins_not _ hb
    rw [hb, if_neg (by decide), if_neg h1, if_neg h2, if_neg h3, if_neg h4, if_neg (fun e => e.elim h5 h6), if_neg h7, if_neg h8] at h
    cases h

theorem arr_err (rec : Nat → Res JV) (a : List JV) {i : Nat} {x : Nat × Nat} (h : rec i = .error x) : arrStep rec i a = .error x := by rw [arrStep, h]
theorem obj_err (rec : Nat → Res JV) (a : List JM) : ∃ x, objStep rec s s.length a = .error x := by
  unfold objStep
  rw [memS_key, skipSp_end]
  have : keyS s s.length a = .error (wrongR s s.length) := by rw [keyS, if_pos (by rw [byteAt_end (Nat.le_refl _)]; decide)]
  rw [this]
  exact ⟨_, rfl⟩

theorem valueS_emb (hpost : numT post = []) : ∀ (k k' i : Nat) (v : JV) (i1 : Nat), i ≤ s.length → valueS k s i = .ok (v, i1) → v.depth ≤ k' → valueS k' (pre ++ (s ++ post)) (pre.length + i) = .ok (shiftJ pre.length v, pre.length + i1)
  | 0, _, _, _, _, _, h, _ => (valueS_zero h).elim
  | k + 1, 0, _, v, _, _, _, hd => by have := depth_pos v; omega
  | k + 1, m + 1, i, v, i1, hi, h, hd => by
    have hle := skipSp_le hi
    by_cases hj : skipSp s i = s.length
    · rw [valueS_end _ hj] at h; cases h
    have hlt : skipSp s i < s.length := by omega
    rw [valueS, valueF] at h ⊢
    try dsimp only at h ⊢
    rw [skip_emb hi hlt, byteAt_emb hlt]
    generalize skipSp s i = j at *
    rw [if_neg (by simp)] at h ⊢
    have word : ∀ (name : List UInt8) (k : Int) (b : Bool), wordS s j name (jv k b 0 [] [] [] j) = .ok (v, i1) → wordS (pre ++ (s ++ post)) (pre.length + j) name (jv k b 0 [] [] [] (pre.length + j : Nat)) = .ok (shiftJ pre.length v, pre.length + i1) := fun name k b hw => by
      unfold wordS at hw ⊢
      rw [drop_emb hle]
      by_cases hp : hasPre (s.drop j) name = true
      · rw [if_pos hp] at hw
        cases hw
        rw [if_pos (hasPre_app hp), shift_jv]
        simp [shiftL, shiftM, Nat.add_assoc]
      · rw [if_neg hp] at hw; cases hw
    by_cases h1 : byteAt s j = 110
    · rw [if_pos h1] at h ⊢; exact word _ _ _ h
    rw [if_neg h1] at h ⊢
    by_cases h2 : byteAt s j = 116
    · rw [if_pos h2] at h ⊢; exact word _ _ _ h
    rw [if_neg h2] at h ⊢
    by_cases h3 : byteAt s j = 102
    · rw [if_pos h3] at h ⊢; exact word _ _ _ h
    rw [if_neg h3] at h ⊢
    by_cases h4 : byteAt s j = 34
    · rw [if_pos h4] at h ⊢
      by_cases h5 : (strP s j).2.2 = 0
      · rw [if_pos h5] at h
        cases h
        rw [strP_emb hle h5, if_pos rfl, shift_jv]
        simp [shiftL, shiftM]
      · rw [if_neg h5] at h; cases h
    rw [if_neg h4] at h ⊢
    by_cases h5 : byteAt s j = 45 ∨ (48 ≤ (byteAt s j).toNat ∧ (byteAt s j).toNat ≤ 57)
    · rw [if_pos h5] at h ⊢
      have hnum : numT ((pre ++ (s ++ post)).drop (pre.length + j)) = numT (s.drop j) := by
        rw [drop_emb hle]
        exact takeWhile_app _ _ _ (.inr hpost)
      rw [hnum]
      cases hn : numS (numT (s.drop j)) with
      | none => rw [hn] at h; cases h
      | some n =>
        rw [hn] at h
        cases h
        simp only
        rw [shift_jv]
        simp [shiftL, shiftM, Nat.add_assoc]
    rw [if_neg h5] at h ⊢
    by_cases h6 : byteAt s j = 91
    · rw [if_pos h6] at h ⊢
      cases he : elemS (arrStep (valueS k s)) s 93 j [] with
      | error x => rw [he] at h; cases h
      | ok r =>
        obtain ⟨is, i2⟩ := r
        rw [he] at h
        cases h
        have hd' : depthL is ≤ m := by
          simp only [jv, JV.depth, if_true] at hd
          omega
        have := elemS_emb (pre := pre) (post := post) (F := shiftL pre.length) (G := fun a => depthL a ≤ m) (step' := arrStep (valueS m (pre ++ (s ++ post)))) (by decide) (arrStep_prog (valueS_prog s k)) ?_ ?_ (fun a => .inr ⟨_, arr_err _ a (valueS_end k (skipSp_end s))⟩) hlt he hd'
        · have e0 : shiftL pre.length [] = [] := rfl
          rw [e0] at this
          rw [this]
          simp only
          rw [shift_jv]
          simp [shiftM]
        · intro i a a' i1 hi hs hg
          unfold arrStep at hs
          cases hr : valueS k s i with
          | error y => rw [hr] at hs; cases hs
          | ok r =>
            rw [hr] at hs
            cases hs
            rw [depthL_app] at hg
            omega
        · intro i a a' i1 hi hs hg
          unfold arrStep at hs ⊢
          cases hr : valueS k s i with
          | error y => rw [hr] at hs; cases hs
          | ok r =>
            obtain ⟨w, i3⟩ := r
            rw [hr] at hs
            cases hs
            rw [depthL_app, depthL, depthL] at hg
            rw [valueS_emb hpost k m i w i1 hi hr (by omega)]
            simp only
            rw [shiftL_app]
            rfl
    rw [if_neg h6] at h ⊢
    by_cases h7 : byteAt s j = 123
    · rw [if_pos h7] at h ⊢
      cases he : elemS (objStep (valueS k s) s) s 125 j [] with
      | error x => rw [he] at h; cases h
      | ok r =>
        obtain ⟨ms, i2⟩ := r
        rw [he] at h
        cases h
        have hd' : depthM ms ≤ m := by
          have hd2 : (jv 5 false 0 [] [] ms j).depth = depthM ms + 1 := by rw [jv, JV.depth, if_neg (by decide), if_pos rfl]
          omega
        have := elemS_emb (pre := pre) (post := post) (F := shiftM pre.length) (G := fun a => depthM a ≤ m) (step' := objStep (valueS m (pre ++ (s ++ post))) (pre ++ (s ++ post))) (by decide) (objStep_prog (valueS_prog s k)) ?_ ?_ (fun a => .inr (obj_err _ a)) hlt he hd'
        · have e0 : shiftM pre.length [] = [] := rfl
          rw [e0] at this
          rw [this]
          simp only
          rw [shift_jv]
          simp [shiftL]
        · intro i a a' i1 hi hs hg
          unfold objStep at hs
          rw [memS_key] at hs
          cases hk : keyS s (skipSp s i) a with
          | error y => rw [hk] at hs; cases hs
          | ok r =>
            obtain ⟨key, ik⟩ := r
            rw [hk] at hs
            simp only at hs
            cases hr : valueS k s ik with
            | error y => rw [hr] at hs; cases hs
            | ok r =>
              rw [hr] at hs
              cases hs
              rw [depthM_app] at hg
              omega
        · intro i a a' i1 hi hs hg
          unfold objStep at hs ⊢
          rw [memS_key] at hs ⊢
          cases hk : keyS s (skipSp s i) a with
          | error y => rw [hk] at hs; cases hs
          | ok r =>
            obtain ⟨key, ik⟩ := r
            have hkl := keyS_le (skipSp_le hi) hk
            rw [skip_emb hi (by omega), keyS_emb (skipSp_le hi) hk]
            rw [hk] at hs
            simp only at hs ⊢
            cases hr : valueS k s ik with
            | error y => rw [hr] at hs; cases hs
            | ok r =>
              obtain ⟨w, i3⟩ := r
              rw [hr] at hs
              cases hs
              rw [depthM_app, depthM, depthM, JM.depth] at hg
              rw [valueS_emb hpost k m ik w i1 hkl.2 hr (by omega)]
              simp only
              rw [shiftM_app]
              simp [shiftM, shiftMm]
    rw [if_neg h7] at h
    cases h
end
end Go.Proofs.YtgdcdkgmeomhpaaGreatDoor

namespace Go.Proofs.YtgdcdkgmeomhpaaGreatDoor
open Go Go.Vs
set_option maxRecDepth 20000

/-- White space only. -/
def Sp (l : List UInt8) : Prop := ∀ c ∈ l, spB c.toNat = true
theorem Sp.nil : Sp [] := fun c h => by cases h
theorem Sp.app {a b : List UInt8} (ha : Sp a) (hb : Sp b) : Sp (a ++ b) := fun c h => (List.mem_append.1 h).elim (ha c) (hb c)
/-- No white space at the head. -/
def NoSp (l : List UInt8) : Prop := l.takeWhile (fun c => spB c.toNat) = []

theorem skip_at {P A R T : List UInt8} (hT : T = P ++ (A ++ R)) (hA : Sp A) (hR : NoSp R) : skipSp T P.length = (P ++ A).length := by
  subst hT
  unfold skipSp
  rw [List.drop_left' rfl, List.length_append]
  congr 2
  induction A with
  | nil => exact hR
  | cons c r ih =>
    rw [List.cons_append, List.takeWhile_cons, if_pos (hA c (by simp)), ih fun d hd => hA d (by simp [hd])]
theorem byte_at {P R T : List UInt8} {c : UInt8} (hT : T = P ++ (c :: R)) : byteAt T P.length = c := by
  subst hT
  simp [byteAt, List.getD_eq_getElem?_getD]
theorem noSp_cons {c : UInt8} (r : List UInt8) (h : spB c.toNat = false) : NoSp (c :: r) := by
  rw [NoSp, List.takeWhile_cons, if_neg (by rw [h]; simp)]
theorem noSp_nil : NoSp [] := rfl
theorem decT_ascii {c : UInt8} (r : List UInt8) (h : c.toNat < 128) : decT (c :: r) = (c.toNat, 1) := by
  rw [decT_W _ (by simp), decW, if_pos (by exact h)]
  rfl
theorem len_cons {P : List UInt8} {c : UInt8} : P.length + 1 = (P ++ [c]).length := by simp
theorem drop_at' {P R T : List UInt8} (hT : T = P ++ R) : T.drop P.length = R := by subst hT; exact List.drop_left' rfl

theorem numT_sp {l q : List UInt8} (h : Sp l) (hq : numT q = []) : numT (l ++ q) = [] := by
  cases l with
  | nil => exact hq
  | cons c r =>
    have hc := h c (by simp)
    have := all_u8 (p := fun c => !spB c.toNat || !numSet.contains c) (by kernel_rfl) c
    rw [hc] at this
    have : numSet.contains c = false := by simpa using this
    rw [List.cons_append, numT, List.takeWhile_cons, if_neg (by rw [this]; simp)]
theorem numT_cons {c : UInt8} (r : List UInt8) (h : numSet.contains c = false) : numT (c :: r) = [] := by rw [numT, List.takeWhile_cons, if_neg (by rw [h]; simp)]

/-- A value depends on what is behind white space. -/
theorem value_over (k : Nat) {P A R T : List UInt8} (hT : T = P ++ (A ++ R)) (hA : Sp A) : valueS k T P.length = valueS k T (P ++ A).length := by
  rw [← valueS_skip T P.length, ← valueS_skip T (P ++ A).length]
  congr 1
  have e : skipSp T P.length = skipSp T (P ++ A).length := by
    unfold skipSp
    rw [drop_at' hT, drop_at' (P := P ++ A) (R := R) (by rw [hT]; simp)]
    have : ((A ++ R).takeWhile fun c => spB c.toNat).length = A.length + (R.takeWhile fun c => spB c.toNat).length := by
      clear hT
      induction A with
      | nil => simp
      | cons c r ih =>
        rw [List.cons_append, List.takeWhile_cons, if_pos (hA c (by simp))]
        simp only [List.length_cons]
        rw [ih fun d hd => hA d (by simp [hd])]
        omega
    rw [this, List.length_append]
    omega
  exact e

theorem value_head {k : Nat} {s : List UInt8} {i : Nat} {v : JV} {i1 : Nat} (h : valueS k s i = .ok (v, i1)) : beginsB (byteAt s (skipSp s i)) = true := by
  cases hb : beginsB (byteAt s (skipSp s i)) with
  | true => rfl
  | false =>
    obtain ⟨h1, h2, h3, h4, h5, h6, h7, h8⟩ := begins_not _ hb
    have key : ∀ lim rec, valueF lim rec s i = .ok (v, i1) → False := fun lim rec h => by
      unfold valueF at h
      dsimp only at h
      rw [hb] at h
      rw [if_neg (by simp), if_neg h1, if_neg h2, if_neg h3, if_neg h4, if_neg (fun e => e.elim h5 h6), if_neg h7, if_neg h8] at h
      cases h
    cases k with
    | zero => exact (key _ _ h).elim
    | succ k => exact (key _ _ h).elim

/-- What an accepted text is made of. -/
theorem parse_parts {s : List UInt8} {v : JV} (h : parseS s = .ok v) (h0 : hasPre s [239] = false) : ∃ i1, valueS 100 s 0 = .ok (v, i1) ∧ i1 ≤ s.length ∧ Sp (s.drop i1) := by
  have hb : hasPre s [239, 187, 191] = false := by
    rw [← Bool.not_eq_true]
    intro e
    unfold hasPre at h0 e
    have e' := eq_of_beq e
    cases s with
    | nil => cases e'
    | cons c r =>
      simp only [List.length_cons, List.take_succ_cons] at e'
      have := (List.cons.inj e').1
      subst this
      simp at h0
  unfold parseS at h
  rw [hb, if_neg (by simp)] at h
  cases hr : valueS 100 s 0 with
  | error x => rw [hr] at h; cases h
  | ok r =>
    obtain ⟨w, i⟩ := r
    rw [hr] at h
    simp only at h
    have hp := valueS_prog s 100 0 w i (Nat.zero_le _) hr
    split at h
    · cases h
    · rename_i hs
      cases h
      refine ⟨i, rfl, hp.2, ?_⟩
      have hle := skipSp_le hp.2
      have hsk : skipSp s i = s.length := by omega
      unfold skipSp at hsk
      have hl : ((s.drop i).takeWhile fun c => spB c.toNat).length = (s.drop i).length := by rw [List.length_drop]; omega
      have hsub := (List.takeWhile_prefix (fun c : UInt8 => spB c.toNat) (l := s.drop i)).eq_of_length hl
      intro c hc
      rw [← hsub] at hc
      exact List.all_eq_true.1 (List.all_takeWhile (p := fun c : UInt8 => spB c.toNat)) c hc
theorem td (s : List UInt8) (i : Nat) (R : List UInt8) : s.take i ++ (s.drop i ++ R) = s ++ R := by rw [← List.append_assoc, List.take_append_drop]
theorem parse_of {s : List UInt8} {v : JV} {i1 : Nat} (hb : hasPre s [239, 187, 191] = false) (h : valueS 100 s 0 = .ok (v, i1)) (hs : skipSp s i1 = s.length) : parseS s = .ok v := by
  unfold parseS
  rw [hb, if_neg (by simp), h]
  simp only
  rw [if_neg (by omega)]

section
variable {s sp : List UInt8} {v : JV}

theorem bom_no {P R : List UInt8} (hP : Sp P) (hR : hasPre R [239] = false) : hasPre (P ++ R) [239, 187, 191] = false := by
  rw [← Bool.not_eq_true]
  intro e
  unfold hasPre at hR e
  have e' := eq_of_beq e
  cases P with
  | nil =>
    rw [List.nil_append] at e'
    cases R with
    | nil => cases e'
    | cons c r =>
      simp only [List.length_cons, List.take_succ_cons] at e'
      have := (List.cons.inj e').1
      subst this
      simp at hR
  | cons c r =>
    simp only [List.cons_append, List.length_cons, List.take_succ_cons] at e'
    have h1 := (List.cons.inj e').1
    have := hP c (by simp)
    rw [h1] at this
    exact absurd this (by decide)
theorem hasPre_app1 {s q : List UInt8} (h : hasPre s [239] = false) (hs : s ≠ []) : hasPre (s ++ q) [239] = false := by
  cases s with
  | nil => exact absurd rfl hs
  | cons c r => simpa [hasPre] using h

/-- White space around a text. -/
theorem around (h : parseS s = .ok v) (h0 : hasPre s [239] = false) (hd : v.depth ≤ 100) (hsp : Sp sp) : parseS (sp ++ s ++ sp) = .ok (shiftJ sp.length v) := by
  obtain ⟨i1, hv, hi, hS⟩ := parse_parts h h0
  have hne : s ≠ [] := fun e => by subst e; cases hv
  have hT : sp ++ s ++ sp = sp ++ (s ++ sp) := List.append_assoc _ _ _
  rw [hT]
  have he := valueS_emb (pre := sp) (post := sp) (by have := numT_sp (q := []) hsp rfl; simpa using this) 100 100 0 v i1 (Nat.zero_le _) hv hd
  have hov := value_over 100 (P := []) (A := sp) (R := s ++ sp) (T := sp ++ (s ++ sp)) rfl hsp
  rw [List.nil_append, List.length_nil] at hov
  refine parse_of (bom_no hsp (hasPre_app1 h0 hne)) (hov.trans he) ?_
  have hdp : (sp ++ (s ++ sp)) = (sp ++ s.take i1) ++ ((s.drop i1 ++ sp) ++ []) := by simp [td]
  have := skip_at hdp (hS.app hsp) noSp_nil
  have hl : (sp ++ s.take i1).length = sp.length + i1 := by simp; omega
  rw [hl] at this
  rw [this]
  simp
  omega

/-- The text with the value in an array and in an object. -/
def boxT (sp s : List UInt8) : List UInt8 := [91] ++ sp ++ s ++ sp ++ [44] ++ sp ++ [123] ++ sp ++ [34, 107, 34] ++ sp ++ [58] ++ s ++ [125] ++ sp ++ [93]

theorem boxed (h : parseS s = .ok v) (h0 : hasPre s [239] = false) (hd : v.depth + 2 ≤ 100) (hsp : Sp sp) :
    ∃ (p q : Nat) (a1 a2 a3 : Nat), parseS (boxT sp s) = .ok (jv 4 false 0 [] [shiftJ p v, jv 5 false 0 [] [] [.mk [107] (shiftJ q v) a1] a2] [] a3) := by
  obtain ⟨i1, hv, hi, hS⟩ := parse_parts h h0
  have hne : s ≠ [] := fun e => by subst e; cases hv
  have hlen : i1 ≤ s.length := hi
  obtain ⟨T, hT⟩ : ∃ T, T = boxT sp s := ⟨_, rfl⟩
  rw [← hT]
  have hhd := value_head hv
  have hsk0 : skipSp s 0 < s.length := Classical.byContradiction fun hc => by
    rw [byteAt_end (by omega)] at hhd; exact absurd hhd (by decide)
  -- the parts
  have t1 : T = ([91] ++ sp) ++ (s ++ (sp ++ [44] ++ sp ++ [123] ++ sp ++ [34, 107, 34] ++ sp ++ [58] ++ s ++ [125] ++ sp ++ [93])) := by rw [hT]; simp [boxT]
  have hQ1 : numT (sp ++ [44] ++ sp ++ [123] ++ sp ++ [34, 107, 34] ++ sp ++ [58] ++ s ++ [125] ++ sp ++ [93]) = [] := by
    simp only [List.append_assoc]
    exact numT_sp hsp (numT_cons _ (by decide))
  have e1 := valueS_emb (pre := [91] ++ sp) (post := sp ++ [44] ++ sp ++ [123] ++ sp ++ [34, 107, 34] ++ sp ++ [58] ++ s ++ [125] ++ sp ++ [93]) hQ1 100 99 0 v i1 (Nat.zero_le _) hv (by omega)
  rw [← t1] at e1
  have o1 := value_over 99 (P := [91]) (A := sp) (R := s ++ (sp ++ [44] ++ sp ++ [123] ++ sp ++ [34, 107, 34] ++ sp ++ [58] ++ s ++ [125] ++ sp ++ [93])) (T := T) (by rw [t1]; simp) hsp
  have v1 : valueS 99 T (skipSp T 1) = .ok (shiftJ ([91] ++ sp).length v, ([91] ++ sp).length + i1) := by
    rw [valueS_skip]
    exact o1.trans e1
  have s1 : skipSp T 1 = ([91] ++ sp).length + skipSp s 0 := by
    have a1 := skip_emb (pre := [91] ++ sp) (post := sp ++ [44] ++ sp ++ [123] ++ sp ++ [34, 107, 34] ++ sp ++ [58] ++ s ++ [125] ++ sp ++ [93]) (Nat.zero_le _) hsk0
    rw [← t1] at a1
    rw [← a1]
    have d1 : T.drop 1 = sp ++ T.drop ([91] ++ sp).length := by
      rw [drop_at' t1]
      rw [t1]
      simp
    unfold skipSp
    rw [d1]
    have : ((sp ++ T.drop ([91] ++ sp).length).takeWhile fun c => spB c.toNat).length = sp.length + ((T.drop ([91] ++ sp).length).takeWhile fun c => spB c.toNat).length := by
      generalize T.drop ([91] ++ sp).length = R
      clear hQ1 e1 o1 v1 t1 d1 a1 hT
      induction sp with
      | nil => simp
      | cons c r ih =>
        rw [List.cons_append, List.takeWhile_cons, if_pos (hsp c (by simp))]
        simp only [List.length_cons]
        rw [ih fun d hd => hsp d (by simp [hd])]
        omega
    rw [this]
    simp
    omega
  have b1 : byteAt T (skipSp T 1) ≠ 93 := by
    rw [s1]
    have := byteAt_emb (pre := [91] ++ sp) (post := sp ++ [44] ++ sp ++ [123] ++ sp ++ [34, 107, 34] ++ sp ++ [58] ++ s ++ [125] ++ sp ++ [93]) hsk0
    rw [← t1] at this
    rw [this]
    intro e
    rw [e] at hhd
    exact absurd hhd (by decide)
  -- behind the first value
  have l1 : ([91] ++ sp ++ s.take i1).length = ([91] ++ sp).length + i1 := by simp; omega
  have t2 : T = ([91] ++ sp ++ s.take i1) ++ ((s.drop i1 ++ sp) ++ (44 :: (sp ++ [123] ++ sp ++ [34, 107, 34] ++ sp ++ [58] ++ s ++ [125] ++ sp ++ [93]))) := by rw [t1]; simp [td]
  have s2 := skip_at t2 (hS.app hsp) (noSp_cons _ (by decide))
  have p2 : [91] ++ sp ++ s.take i1 ++ (s.drop i1 ++ sp) = [91] ++ sp ++ s ++ sp := by simp [td]
  rw [l1, p2] at s2
  have b2 := byte_at (T := T) (P := [91] ++ sp ++ s ++ sp) (c := 44) (R := sp ++ [123] ++ sp ++ [34, 107, 34] ++ sp ++ [58] ++ s ++ [125] ++ sp ++ [93]) (by rw [t1]; simp)
  -- the object
  have s3 := skip_at (T := T) (P := [91] ++ sp ++ s ++ sp ++ [44]) (A := sp) (R := 123 :: (sp ++ [34, 107, 34] ++ sp ++ [58] ++ s ++ [125] ++ sp ++ [93])) (by rw [t1]; simp) hsp (noSp_cons _ (by decide))
  have b3 := byte_at (T := T) (P := [91] ++ sp ++ s ++ sp ++ [44] ++ sp) (c := 123) (R := sp ++ [34, 107, 34] ++ sp ++ [58] ++ s ++ [125] ++ sp ++ [93]) (by rw [t1]; simp)
  have s4 := skip_at (T := T) (P := [91] ++ sp ++ s ++ sp ++ [44] ++ sp ++ [123]) (A := sp) (R := 34 :: ([107, 34] ++ sp ++ [58] ++ s ++ [125] ++ sp ++ [93])) (by rw [t1]; simp) hsp (noSp_cons _ (by decide))
  obtain ⟨P4, hP4⟩ : ∃ P, P = [91] ++ sp ++ s ++ sp ++ [44] ++ sp ++ [123] ++ sp := ⟨_, rfl⟩
  rw [← hP4] at s4
  have t4 : T = P4 ++ (34 :: (107 :: (34 :: (sp ++ [58] ++ s ++ [125] ++ sp ++ [93])))) := by rw [t1, hP4]; simp
  have b4 := byte_at t4
  have s4' := skip_at (T := T) (P := P4) (A := []) (R := 34 :: (107 :: (34 :: (sp ++ [58] ++ s ++ [125] ++ sp ++ [93])))) t4 Sp.nil (noSp_cons _ (by decide))
  rw [List.append_nil] at s4'
  have k4 : strP T P4.length = ([107], P4.length + 3, 0) := by
    have hTl : T.length = P4.length + 3 + (sp ++ [58] ++ s ++ [125] ++ sp ++ [93]).length := by rw [t4]; simp; omega
    unfold strP
    rw [if_pos ⟨by omega, by show (byteAt T P4.length).toNat = 34; rw [b4]; rfl⟩]
    obtain ⟨m, hm⟩ : ∃ m, T.length - P4.length = m + 1 + 1 := ⟨T.length - P4.length - 2, by omega⟩
    have d5 : T.drop (P4.length + 1) = 107 :: (34 :: (sp ++ [58] ++ s ++ [125] ++ sp ++ [93])) := by
      rw [len_cons (c := 34)]
      exact drop_at' (by rw [t4]; simp)
    have d6 : T.drop (P4.length + 1 + 1) = 34 :: (sp ++ [58] ++ s ++ [125] ++ sp ++ [93]) := by
      rw [← List.drop_drop, d5]; rfl
    rw [hm, strS, if_neg (by omega)]
    dsimp only
    rw [d5, decT_ascii _ (by decide)]
    rw [if_neg (by decide), if_neg (by decide), if_neg (by decide), if_neg (by decide)]
    rw [strS, if_neg (by show ¬ T.length ≤ P4.length + 1 + 1; omega)]
    dsimp only
    rw [d6, decT_ascii _ (by decide)]
    rw [if_neg (by decide), if_neg (by decide), if_pos (by decide)]
    rfl
  have s5 := skip_at (T := T) (P := P4 ++ [34, 107, 34]) (A := sp) (R := 58 :: (s ++ [125] ++ sp ++ [93])) (by rw [t4]; simp) hsp (noSp_cons _ (by decide))
  have b5 := byte_at (T := T) (P := P4 ++ [34, 107, 34] ++ sp) (c := 58) (R := s ++ [125] ++ sp ++ [93]) (by rw [t4]; simp)
  have t6 : T = (P4 ++ [34, 107, 34] ++ sp ++ [58]) ++ (s ++ ([125] ++ sp ++ [93])) := by rw [t4]; simp
  obtain ⟨P6, hP6⟩ : ∃ P, P = P4 ++ [34, 107, 34] ++ sp ++ [58] := ⟨_, rfl⟩
  rw [← hP6] at t6
  have e6 := valueS_emb (pre := P6) (post := [125] ++ sp ++ [93]) (numT_cons _ (by decide)) 100 98 0 v i1 (Nat.zero_le _) hv (by omega)
  rw [← t6, Nat.add_zero] at e6
  have key6 : keyS T P4.length [] = .ok ([107], P6.length) := by
    unfold keyS
    rw [b4, if_neg (by simp), k4, if_neg (by simp)]
    simp only [List.any_nil]
    rw [if_neg (by simp)]
    have e : P4.length + 3 = (P4 ++ [34, 107, 34]).length := by simp
    rw [e, s5, b5, if_pos rfl, hP6]
    simp <;> omega
  have l6 : (P6 ++ s.take i1).length = P6.length + i1 := by simp; omega
  have s7 := skip_at (T := T) (P := P6 ++ s.take i1) (A := s.drop i1) (R := 125 :: (sp ++ [93])) (by rw [t6]; simp [td]) hS (noSp_cons _ (by decide))
  have p7 : P6 ++ s.take i1 ++ s.drop i1 = P6 ++ s := by simp
  rw [l6, p7] at s7
  have b7 := byte_at (T := T) (P := P6 ++ s) (c := 125) (R := sp ++ [93]) (by rw [t6]; simp)
  have s8 := skip_at (T := T) (P := P6 ++ s ++ [125]) (A := sp) (R := [93]) (by rw [t6]; simp) hsp (noSp_cons _ (by decide))
  have b8 := byte_at (T := T) (P := P6 ++ s ++ [125] ++ sp) (c := 93) (R := []) (by rw [t6]; simp)
  have hTl : T.length = (P6 ++ s ++ [125] ++ sp).length + 1 := by rw [t6]; simp; omega
  have o7 : objStep (valueS 98 T) T P4.length [] = .ok ([.mk [107] (shiftJ P6.length v) (P4.length : Nat)], P6.length + i1) := by
    unfold objStep
    rw [memS_key, s4', key6]
    simp only
    rw [e6]
    rfl
  have obj : valueS 99 T ([91] ++ sp ++ s ++ sp ++ [44]).length = .ok (jv 5 false 0 [] [] [.mk [107] (shiftJ P6.length v) (P4.length : Nat)] ([91] ++ sp ++ s ++ sp ++ [44] ++ sp).length, (P6 ++ s ++ [125]).length) := by
    rw [valueS, valueF]
    rw [s3, b3]
    rw [if_neg (by simp), if_neg (by decide), if_neg (by decide), if_neg (by decide), if_neg (by decide), if_neg (by decide), if_neg (by decide), if_pos rfl]
    unfold elemS
    rw [len_cons (c := 123), s4, b4, if_neg (by decide)]
    obtain ⟨m, hm⟩ : ∃ m, T.length + 1 - P4.length = m + 1 := ⟨T.length - P4.length, by rw [t4]; simp; omega⟩
    rw [hm, loopS, o7]
    simp only
    rw [s7, b7, if_pos rfl]
    simp <;> omega
  refine ⟨([91] ++ sp).length, P6.length, P4.length, ([91] ++ sp ++ s ++ sp ++ [44] ++ sp).length, 0, ?_⟩
  have h91 : byteAt T 0 = 91 := byte_at (T := T) (P := []) (c := 91) (R := sp ++ (s ++ (sp ++ [44] ++ sp ++ [123] ++ sp ++ [34, 107, 34] ++ sp ++ [58] ++ s ++ [125] ++ sp ++ [93]))) (by rw [t1]; simp)
  have hs00 : skipSp T 0 = 0 := skip_at (T := T) (P := []) (A := []) (R := 91 :: (sp ++ (s ++ (sp ++ [44] ++ sp ++ [123] ++ sp ++ [34, 107, 34] ++ sp ++ [58] ++ s ++ [125] ++ sp ++ [93])))) (by rw [t1]; simp) Sp.nil (noSp_cons _ (by decide))
  refine parse_of (i1 := T.length) ?_ ?_ (skipSp_end T)
  · rw [t1]; simp [hasPre]
  · rw [valueS, valueF]
    rw [hs00, h91]
    rw [if_neg (by simp), if_neg (by decide), if_neg (by decide), if_neg (by decide), if_neg (by decide), if_neg (by decide), if_pos rfl]
    unfold elemS
    rw [Nat.zero_add, if_neg b1]
    have hs1 : skipSp T 1 + 2 ≤ T.length := by
      rw [s1, t1]
      simp
      omega
    obtain ⟨m, hm⟩ : ∃ m, T.length + 1 - skipSp T 1 = m + 1 + 1 := ⟨T.length + 1 - skipSp T 1 - 2, by omega⟩
    have ar1 : arrStep (valueS 99 T) (skipSp T 1) [] = .ok ([shiftJ ([91] ++ sp).length v], ([91] ++ sp).length + i1) := by
      unfold arrStep
      rw [v1]
      rfl
    rw [hm, loopS, ar1]
    simp only
    rw [s2, b2, if_neg (by decide), if_pos rfl, len_cons (c := 44), loopS]
    have ar2 : arrStep (valueS 99 T) ([91] ++ sp ++ s ++ sp ++ [44]).length [shiftJ ([91] ++ sp).length v] = .ok ([shiftJ ([91] ++ sp).length v, jv 5 false 0 [] [] [.mk [107] (shiftJ P6.length v) (P4.length : Nat)] ([91] ++ sp ++ s ++ sp ++ [44] ++ sp).length], (P6 ++ s ++ [125]).length) := by
      unfold arrStep
      rw [obj]
      rfl
    rw [ar2]
    simp only
    rw [s8, b8, if_pos rfl]
    simp only
    rw [hTl]
end
end Go.Proofs.YtgdcdkgmeomhpaaGreatDoor

namespace Go.Proofs.YtgdcdkgmeomhpaaGreatDoor
open Go Go.Vs
set_option maxRecDepth 20000
attribute [local irreducible] chooseK

theorem refDepth_C : ∀ (N : Nat) (v : JV), v.wt ≤ N → v.wt ≤ big → ∀ (σ : St) (Q : Out → St → Prop), Q (.ret (.int .i64 (v.depth : Int))) σ → C Xc 10 [v.enc] σ Q := by
  intro N
  induction N with
  | zero => intro v hv; have := v.wt_pos; omega
  | succ N ih =>
    intro v hv hb σ Q h
    obtain ⟨k, b, n, s, ni, is, nm, ms, a⟩ := v
    unfold big at hb
    rw [JV.wt] at hv hb
    have hwL := wtL_len is
    have hwM := wtM_len ms
    have hdL := depthL_wt is
    have hdM := depthM_wt ms
    rw [JV.depth] at h
    have e44 : ((4 : Int) == 4) = true := rfl
    have e45 : ((4 : Int) == 5) = false := rfl
    have e54 : ((5 : Int) == 4) = false := rfl
    have e55 : ((5 : Int) == 5) = true := rfl
    refine bodyW cf_refDepth (Eq.refl true) fun hw => ?_
    simp -implicitDefEqProofs only [vf_refDepth, JV.enc, JV.len, ob, ws, ↓reduceIte, Nat.reduceEqDiff, Nat.reduceAdd, Nat.reduceLeDiff]
    by_cases h4 : k = 4
    · subst h4
      rw [if_pos rfl] at h
      have e4 : True := trivial
      have e5 : True := trivial
      refine LoopP.intro (fun n' fr σ' => ∃ (j : Nat), j ≤ is.length ∧ n' = is.length - j ∧ fr 1 = .ref (some (σ.objs.length, 0)) ∧ fr 3 = .int .i64 (depthL (is.take j) : Int) ∧ fr 4 = .int .i64 (j : Int) ∧
          σ' = ⟨σ.objs ++ [(JV.mk 4 b n s ni is nm ms a).cells], σ.maps, σ.toks, σ.tys ++ [26], σ.tts⟩) is.length ?_ ?_
      · exact ⟨0, by omega, by omega, rfl, rfl, rfl, rfl⟩
      rintro n' fr σ' ⟨j, hj, rfl, f1, f3, f4, rfl⟩
      simp -implicitDefEqProofs only [f1, f3, f4, ob, encL_len, JV.cells, slcE, e44, ws, ↓reduceIte, Nat.reduceEqDiff, Nat.reduceAdd, Nat.reduceLeDiff]
      refine chooseK_split (fun h1 => ?_) (fun h1 => ?_) <;> simp -implicitDefEqProofs only [h1, f1, f3, f4, ob, encL_len, e44, ws, ↓reduceIte, Nat.reduceEqDiff, Nat.reduceAdd, Nat.reduceLeDiff]
      · have hjl : j < is.length := by simp at h1; omega
        have hgj := encL_get is j hjl
        have hm := getD_mem (d := jnull) hjl
        have hwt := wtL_mem hm
        have hdt := depthL_take is j hjl
        refine ⟨by omega, encL_cells is, ?_⟩
        rw [hgj]
        generalize hv0 : is.getD j jnull = v0 at *
        simp -implicitDefEqProofs only [JV.enc, JV.len, take7, ob, f1, f3, f4, ws, ↓reduceIte, Nat.reduceEqDiff, Nat.reduceAdd, Nat.reduceLeDiff]
        refine ih v0 (by omega) (by unfold big; omega) _ _ ?_
        simp -implicitDefEqProofs only [f1, f3, f4, vmax2_nat, ws, ↓reduceIte, Nat.reduceEqDiff, Nat.reduceAdd, Nat.reduceLeDiff]
        rw [wrap64 (by omega), ← hdt]
        exact ⟨is.length - (j + 1), by omega, j + 1, by omega, rfl, f1, rfl, rfl, rfl⟩
      · have hj2 : j = is.length := by simp at h1; omega
        subst hj2
        rw [List.take_length] at f3
        refine LoopP.intro (fun _ fr σ' => fr 1 = .ref (some (σ.objs.length, 0)) ∧ fr 3 = .int .i64 ((depthL is : Nat) : Int) ∧ fr 5 = .int .i64 0 ∧ σ' = ⟨σ.objs ++ [(JV.mk 4 b n s ni is nm ms a).cells], σ.maps, σ.toks, σ.tys ++ [26], σ.tts⟩) 0 ⟨f1, f3, rfl, rfl⟩ ?_
        rintro n' fr σ' ⟨f1, f3, f4, rfl⟩
        simp -implicitDefEqProofs only [f1, f3, f4, ob, encL_len, encMs_len, JV.cells, slcE, ws, ↓reduceIte, Nat.reduceEqDiff, Nat.reduceAdd, Nat.reduceLeDiff]
        refine chooseK_split (fun g1 => ?_) (fun g1 => ?_) <;> simp -implicitDefEqProofs only [g1, f1, f3, f4, ob, encL_len, encMs_len, e44, e45, e54, e55, e4, e5, ws, ↓reduceIte, Nat.reduceEqDiff, Nat.reduceAdd, Nat.reduceLeDiff]
        · rw [wrap64 (by omega)]
          exact exitNew hw (by rfl) (by rfl) h
        · rw [wrap64 (by omega)]
          exact exitNew hw (by rfl) (by rfl) h
    rw [if_neg h4] at h
    have e4 : (k == 4) = false := by simpa using h4
    by_cases h5 : k = 5
    · subst h5
      rw [if_pos rfl] at h
      have e5 : True := trivial
      refine LoopP.intro (fun _ fr σ' => fr 1 = .ref (some (σ.objs.length, 0)) ∧ fr 3 = .int .i64 ((0 : Nat) : Int) ∧ fr 4 = .int .i64 0 ∧ σ' = ⟨σ.objs ++ [(JV.mk 5 b n s ni is nm ms a).cells], σ.maps, σ.toks, σ.tys ++ [26], σ.tts⟩) 0 ⟨rfl, rfl, rfl, rfl⟩ ?_
      rintro n' fr σ' ⟨f1, f3, f4, rfl⟩
      simp -implicitDefEqProofs only [f1, f3, f4, ob, encL_len, encMs_len, JV.cells, slcE, ws, ↓reduceIte, Nat.reduceEqDiff, Nat.reduceAdd, Nat.reduceLeDiff]
      refine chooseK_split (fun h1 => ?_) (fun h1 => ?_) <;> simp -implicitDefEqProofs only [h1, f1, f3, f4, ob, encL_len, e54, ws, ↓reduceIte, Nat.reduceEqDiff, Nat.reduceAdd, Nat.reduceLeDiff]
      all_goals
        refine LoopP.intro (fun n' fr σ' => ∃ (j : Nat), j ≤ ms.length ∧ n' = ms.length - j ∧ fr 1 = .ref (some (σ.objs.length, 0)) ∧ fr 3 = .int .i64 (depthM (ms.take j) : Int) ∧ fr 5 = .int .i64 (j : Int) ∧
            σ' = ⟨σ.objs ++ [(JV.mk 5 b n s ni is nm ms a).cells], σ.maps, σ.toks, σ.tys ++ [26], σ.tts⟩) ms.length ?_ ?_
        · exact ⟨0, by omega, by omega, f1, f3, rfl, rfl⟩
        rintro n' fr σ' ⟨j, hj, rfl, f1, f3, f4, rfl⟩
        simp -implicitDefEqProofs only [f1, f3, f4, ob, encMs_len, JV.cells, slcE, e55, ws, ↓reduceIte, Nat.reduceEqDiff, Nat.reduceAdd, Nat.reduceLeDiff]
        refine chooseK_split (fun h1 => ?_) (fun h1 => ?_) <;> simp -implicitDefEqProofs only [h1, f1, f3, f4, ob, encMs_len, e55, ws, ↓reduceIte, Nat.reduceEqDiff, Nat.reduceAdd, Nat.reduceLeDiff]
        · have hjl : j < ms.length := by simp at h1; omega
          have hgj := encMs_get ms j hjl
          have hm := getD_mem (d := jmnull) hjl
          have hwt := wtM_mem hm
          have hdt := depthM_take ms j hjl
          refine ⟨by omega, encMs_cells ms, ?_⟩
          rw [hgj, show ms.getD j (.mk [] (jv 0 false 0 [] [] [] 0) 0) = ms.getD j jmnull from rfl]
          generalize hv0 : ms.getD j jmnull = m0 at *
          obtain ⟨kk, v0, aa⟩ := m0
          rw [JM.wt] at hwt
          rw [JM.depth] at hdt
          simp -implicitDefEqProofs only [JM.enc, JM.cells, JV.len, take7a, take8a, ob, f1, f3, f4, ws, ↓reduceIte, Nat.reduceEqDiff, Nat.reduceAdd, Nat.reduceLeDiff]
          refine ih v0 (by omega) (by unfold big; omega) _ _ ?_
          simp -implicitDefEqProofs only [f1, f3, f4, vmax2_nat, ws, ↓reduceIte, Nat.reduceEqDiff, Nat.reduceAdd, Nat.reduceLeDiff]
          rw [wrap64 (by omega), ← hdt]
          exact ⟨ms.length - (j + 1), by omega, j + 1, by omega, rfl, f1, rfl, rfl, rfl⟩
        · have hj2 : j = ms.length := by simp at h1; omega
          subst hj2
          rw [List.take_length, wrap64 (by omega)]
          exact exitNew hw (by rfl) (by rfl) h
    · rw [if_neg h5] at h
      have e5 : (k == 5) = false := by simpa using h5
      refine LoopP.intro (fun _ fr σ' => fr 1 = .ref (some (σ.objs.length, 0)) ∧ fr 3 = .int .i64 ((0 : Nat) : Int) ∧ fr 4 = .int .i64 0 ∧ σ' = ⟨σ.objs ++ [(JV.mk k b n s ni is nm ms a).cells], σ.maps, σ.toks, σ.tys ++ [26], σ.tts⟩) 0 ⟨rfl, rfl, rfl, rfl⟩ ?_
      rintro n' fr σ' ⟨f1, f3, f4, rfl⟩
      simp -implicitDefEqProofs only [f1, f3, f4, ob, encL_len, encMs_len, JV.cells, slcE, ws, ↓reduceIte, Nat.reduceEqDiff, Nat.reduceAdd, Nat.reduceLeDiff]
      refine chooseK_split (fun h1 => ?_) (fun h1 => ?_) <;> simp -implicitDefEqProofs only [h1, f1, f3, f4, ob, encL_len, e4, ws, ↓reduceIte, Nat.reduceEqDiff, Nat.reduceAdd, Nat.reduceLeDiff]
      all_goals
        refine LoopP.intro (fun _ fr σ' => fr 1 = .ref (some (σ.objs.length, 0)) ∧ fr 3 = .int .i64 ((0 : Nat) : Int) ∧ fr 5 = .int .i64 0 ∧ σ' = ⟨σ.objs ++ [(JV.mk k b n s ni is nm ms a).cells], σ.maps, σ.toks, σ.tys ++ [26], σ.tts⟩) 0 ⟨f1, f3, rfl, rfl⟩ ?_
        rintro n' fr σ' ⟨f1, f3, f4, rfl⟩
        simp -implicitDefEqProofs only [f1, f3, f4, ob, encL_len, encMs_len, JV.cells, slcE, ws, ↓reduceIte, Nat.reduceEqDiff, Nat.reduceAdd, Nat.reduceLeDiff]
        refine chooseK_split (fun g1 => ?_) (fun g1 => ?_) <;> simp -implicitDefEqProofs only [g1, f1, f3, f4, ob, encL_len, encMs_len, e44, e45, e54, e55, e4, e5, ws, ↓reduceIte, Nat.reduceEqDiff, Nat.reduceAdd, Nat.reduceLeDiff]
        · rw [wrap64 (by omega)]
          exact exitNew hw (by rfl) (by rfl) h
        · rw [wrap64 (by omega)]
          exact exitNew hw (by rfl) (by rfl) h
end Go.Proofs.YtgdcdkgmeomhpaaGreatDoor

namespace Go.Proofs.YtgdcdkgmeomhpaaGreatDoor
open Go Go.Vs
set_option maxRecDepth 20000
attribute [local irreducible] chooseK

theorem parse_Ce {s' s : List UInt8} {σ : St} {Q : Out → St → Prop} (e : s' = s) (hs : s.length ≤ big) (h : Q (.ret (parseV s)) σ) : C Xc 6 [.str s'] σ Q := by subst e; exact parse_C hs h

theorem law11Spaces_C {s : List UInt8} {n : Int} {σ : St} {Q : Out → St → Prop} (hn : 0 ≤ n ∧ n ≤ 255) (hsz : s.length ≤ 9223372036854775807) (h : Q (.ret (.bool true)) σ) : C Xc 4 [.str s, .int .u8 n] σ Q := by
  refine bodyW cf_law11Spaces (Eq.refl true) fun hw => ?_
  simp -implicitDefEqProofs only [vf_law11Spaces, ob, JV.enc, JV.len, take7, ws, ↓reduceIte, Nat.reduceEqDiff, Nat.reduceAdd, Nat.reduceLeDiff]
  refine chooseK_split (fun g1 => ?_) (fun g1 => ?_) <;> simp -implicitDefEqProofs only [g1, ob, JV.enc, JV.len, take7, ws, ↓reduceIte, Nat.reduceEqDiff, Nat.reduceAdd, Nat.reduceLeDiff]
  · refine alive_C ?_
    simp -implicitDefEqProofs only [ob, JV.enc, JV.len, take7, ws, ↓reduceIte, Nat.reduceEqDiff, Nat.reduceAdd, Nat.reduceLeDiff]
    exact .inl h
  have hl : s.length ≤ 3000 := by simp at g1; omega
  refine r11Parse_C (by unfold big; omega) ?_
  cases hp : parseS s with
  | error x =>
    rw [parseV_error hp]
    have he : ((x.2 : Int) != 0) = true := by
      unfold parseS at hp
      cases hr : valueS 100 s (if hasPre s [239, 187, 191] then 3 else 0) with
      | error y =>
        rw [hr] at hp
        cases hp
        have := valueS_err s 100 _ x (by split <;> first | (rename_i hb; exact hasPre_len hb) | omega) hr
        simpa using this
      | ok r =>
        rw [hr] at hp
        simp only at hp
        split at hp
        · cases hp; rfl
        · cases hp
    simp -implicitDefEqProofs only [he, ob, JV.enc, JV.len, take7, ws, ↓reduceIte, Nat.reduceEqDiff, Nat.reduceAdd, Nat.reduceLeDiff]
    refine alive_C ?_
    try simp -implicitDefEqProofs only [ob, JV.enc, JV.len, take7, ws, ↓reduceIte, Nat.reduceEqDiff, Nat.reduceAdd, Nat.reduceLeDiff]
    exact exitNew hw (by rfl) (by rfl) h
  | ok v =>
  rw [parseV_ok hp]
  have hvw := parseS_wt hp
  have e00 : ((0 : Int) != 0) = false := rfl
  simp -implicitDefEqProofs only [e00, ob, JV.enc, JV.len, take7, ws, ↓reduceIte, Nat.reduceEqDiff, Nat.reduceAdd, Nat.reduceLeDiff]
  refine hasPrefix_C ?_
  cases hb : hasPre s [239] with
  | true =>
    simp -implicitDefEqProofs only [ob, JV.enc, JV.len, take7, ws, ↓reduceIte, Nat.reduceEqDiff, Nat.reduceAdd, Nat.reduceLeDiff]
    refine alive_C ?_
    try simp -implicitDefEqProofs only [ob, JV.enc, JV.len, take7, ws, ↓reduceIte, Nat.reduceEqDiff, Nat.reduceAdd, Nat.reduceLeDiff]
    exact exitNew hw (by rfl) (by rfl) h
  | false =>
  simp -implicitDefEqProofs only [ob, JV.enc, JV.len, take7, ws, ↓reduceIte, Nat.reduceEqDiff, Nat.reduceAdd, Nat.reduceLeDiff]
  refine refDepth_C _ v (Nat.le_refl _) (by unfold big; omega) _ _ ?_
  have hdw := v.depth_wt
  simp -implicitDefEqProofs only [ob, JV.enc, JV.len, take7, ws, ↓reduceIte, Nat.reduceEqDiff, Nat.reduceAdd, Nat.reduceLeDiff]
  rw [wrap64 (by omega)]
  refine chooseK_split (fun g2 => ?_) (fun g2 => ?_) <;> simp -implicitDefEqProofs only [g2, ob, JV.enc, JV.len, take7, ws, ↓reduceIte, Nat.reduceEqDiff, Nat.reduceAdd, Nat.reduceLeDiff]
  · refine alive_C ?_
    try simp -implicitDefEqProofs only [ob, JV.enc, JV.len, take7, ws, ↓reduceIte, Nat.reduceEqDiff, Nat.reduceAdd, Nat.reduceLeDiff]
    exact exitNew hw (by rfl) (by rfl) h
  have hd : v.depth + 2 ≤ 100 := by simp at g2; omega
  have hm : n.tmod 4 = 0 ∨ n.tmod 4 = 1 ∨ n.tmod 4 = 2 ∨ n.tmod 4 = 3 := by
    rw [Int.tmod_eq_emod_of_nonneg hn.1]; omega
  rcases hm with hm | hm | hm | hm
  · rw [hm]
    have hsp : Sp ([32] : List UInt8) := by unfold Sp; decide
    have ha := around hp hb (by omega) hsp
    obtain ⟨p, q, a1, a2, a3, hbx⟩ := boxed hp hb (by omega) hsp
    have hbs : boxT ([32] : List UInt8) s = [91] ++ ([32] : List UInt8) ++ s ++ ([32] : List UInt8) ++ [44] ++ ([32] : List UInt8) ++ [123] ++ ([32] : List UInt8) ++ [34, 107, 34] ++ ([32] : List UInt8) ++ [58] ++ s ++ [125] ++ ([32] : List UInt8) ++ [93] := rfl
    have hw1 := parseS_wt ha
    have hw2 := parseS_wt hbx
    have hl1 : (([32] : List UInt8) ++ s ++ ([32] : List UInt8)).length ≤ 3010 := by simp; omega
    have hl2 : (boxT ([32] : List UInt8) s).length ≤ 6100 := by simp [boxT]; omega
    have hsh : (shiftJ (([32] : List UInt8) : List UInt8).length v).wt ≤ 6100 := by omega
    have hgd : ([.str [32], .str [10], .str [9, 13], .str []] : List V).getD (Int.toNat 0) V.und = .str ([32] : List UInt8) := rfl
    refine ⟨by decide, by decide, ?_⟩
    simp -implicitDefEqProofs only [hgd, ob, JV.enc, JV.len, take7, ws, ↓reduceIte, Nat.reduceEqDiff, Nat.reduceAdd, Nat.reduceLeDiff]
    repeat (refine And.intro (by unfold big; first | omega | (simp only [List.length_append, List.length_cons, List.length_nil]; omega)) ?_)
    refine parse_Ce (s := ([32] : List UInt8) ++ s ++ ([32] : List UInt8)) (by simp) (by unfold big; omega) ?_
    rw [parseV_ok ha]
    simp -implicitDefEqProofs only [ob, JV.enc, JV.len, take7, ws, ↓reduceIte, Nat.reduceEqDiff, Nat.reduceAdd, Nat.reduceLeDiff]
    repeat (refine And.intro (by unfold big; first | omega | (simp only [List.length_append, List.length_cons, List.length_nil]; omega)) ?_)
    refine parse_Ce (s := boxT ([32] : List UInt8) s) (by simp [boxT]) (by unfold big; omega) ?_
    rw [parseV_ok hbx]
    have hxc : ∀ (v1 v2 : JV), (jv 4 false 0 [] [v1, v2] [] a3).cells = [.int .i64 4, .bool false, .int .i64 0, .str [], .slc true [.agg v1.cells, .agg v2.cells] .no, .slc false [] .no, .int .i64 (a3 : Int)] := fun v1 v2 => rfl
    have e22 : (((2 : Nat) : Int) != 2) = false := rfl
    have q1 : (Int.toNat 1) = 1 := rfl
    have q0 : (Int.toNat 0) = 0 := rfl
    simp -implicitDefEqProofs only [hxc, e00, e22, q1, q0, ob, JV.enc, JV.len, take7, ws, ↓reduceIte, Nat.reduceEqDiff, Nat.reduceAdd, Nat.reduceLeDiff]
    refine ⟨by decide, fun y hy => (by simp only [List.mem_cons, List.not_mem_nil, or_false] at hy; rcases hy with rfl | rfl <;> exact JV.len _), ?_⟩
    refine get_C (v := jv 5 false 0 [] [] [.mk [107] (shiftJ q v) a1] a2) (by simp [jv, JV.mems, big]) ?_
    rw [getV_some (x := shiftJ q v) (by simp [getS, jv, JV.kind, JV.mems, JM.keyOf, JM.val])]
    simp -implicitDefEqProofs only [ob, JV.enc, JV.len, take7, ws, ↓reduceIte, Nat.reduceEqDiff, Nat.reduceAdd, Nat.reduceLeDiff]
    refine alive_C ?_
    simp -implicitDefEqProofs only [ob, JV.enc, JV.len, take7, ws, ↓reduceIte, Nat.reduceEqDiff, Nat.reduceAdd, Nat.reduceLeDiff]
    refine refEqual_C false _ v _ (Nat.le_refl _) (by unfold big; omega) _ _ ?_
    rw [eqJ_shift]
    simp -implicitDefEqProofs only [hxc, q0, ob, JV.enc, JV.len, take7, ws, ↓reduceIte, Nat.reduceEqDiff, Nat.reduceAdd, Nat.reduceLeDiff]
    refine ⟨by decide, fun y hy => (by simp only [List.mem_cons, List.not_mem_nil, or_false] at hy; rcases hy with rfl | rfl <;> exact JV.len _), ?_⟩
    refine refEqual_C false _ v _ (Nat.le_refl _) (by unfold big; omega) _ _ ?_
    rw [eqJ_shift]
    simp -implicitDefEqProofs only [ob, JV.enc, JV.len, take7, ws, ↓reduceIte, Nat.reduceEqDiff, Nat.reduceAdd, Nat.reduceLeDiff]
    refine refEqual_C false _ v _ (Nat.le_refl _) (by unfold big; omega) _ _ ?_
    rw [eqJ_shift]
    simp -implicitDefEqProofs only [ob, JV.enc, JV.len, take7, ws, ↓reduceIte, Nat.reduceEqDiff, Nat.reduceAdd, Nat.reduceLeDiff]
    exact exitNew hw (by rfl) (by rfl) h
  · rw [hm]
    have hsp : Sp ([10] : List UInt8) := by unfold Sp; decide
    have ha := around hp hb (by omega) hsp
    obtain ⟨p, q, a1, a2, a3, hbx⟩ := boxed hp hb (by omega) hsp
    have hbs : boxT ([10] : List UInt8) s = [91] ++ ([10] : List UInt8) ++ s ++ ([10] : List UInt8) ++ [44] ++ ([10] : List UInt8) ++ [123] ++ ([10] : List UInt8) ++ [34, 107, 34] ++ ([10] : List UInt8) ++ [58] ++ s ++ [125] ++ ([10] : List UInt8) ++ [93] := rfl
    have hw1 := parseS_wt ha
    have hw2 := parseS_wt hbx
    have hl1 : (([10] : List UInt8) ++ s ++ ([10] : List UInt8)).length ≤ 3010 := by simp; omega
    have hl2 : (boxT ([10] : List UInt8) s).length ≤ 6100 := by simp [boxT]; omega
    have hsh : (shiftJ (([10] : List UInt8) : List UInt8).length v).wt ≤ 6100 := by omega
    have hgd : ([.str [32], .str [10], .str [9, 13], .str []] : List V).getD (Int.toNat 1) V.und = .str ([10] : List UInt8) := rfl
    refine ⟨by decide, by decide, ?_⟩
    simp -implicitDefEqProofs only [hgd, ob, JV.enc, JV.len, take7, ws, ↓reduceIte, Nat.reduceEqDiff, Nat.reduceAdd, Nat.reduceLeDiff]
    repeat (refine And.intro (by unfold big; first | omega | (simp only [List.length_append, List.length_cons, List.length_nil]; omega)) ?_)
    refine parse_Ce (s := ([10] : List UInt8) ++ s ++ ([10] : List UInt8)) (by simp) (by unfold big; omega) ?_
    rw [parseV_ok ha]
    simp -implicitDefEqProofs only [ob, JV.enc, JV.len, take7, ws, ↓reduceIte, Nat.reduceEqDiff, Nat.reduceAdd, Nat.reduceLeDiff]
    repeat (refine And.intro (by unfold big; first | omega | (simp only [List.length_append, List.length_cons, List.length_nil]; omega)) ?_)
    refine parse_Ce (s := boxT ([10] : List UInt8) s) (by simp [boxT]) (by unfold big; omega) ?_
    rw [parseV_ok hbx]
    have hxc : ∀ (v1 v2 : JV), (jv 4 false 0 [] [v1, v2] [] a3).cells = [.int .i64 4, .bool false, .int .i64 0, .str [], .slc true [.agg v1.cells, .agg v2.cells] .no, .slc false [] .no, .int .i64 (a3 : Int)] := fun v1 v2 => rfl
    have e22 : (((2 : Nat) : Int) != 2) = false := rfl
    have q1 : (Int.toNat 1) = 1 := rfl
    have q0 : (Int.toNat 0) = 0 := rfl
    simp -implicitDefEqProofs only [hxc, e00, e22, q1, q0, ob, JV.enc, JV.len, take7, ws, ↓reduceIte, Nat.reduceEqDiff, Nat.reduceAdd, Nat.reduceLeDiff]
    refine ⟨by decide, fun y hy => (by simp only [List.mem_cons, List.not_mem_nil, or_false] at hy; rcases hy with rfl | rfl <;> exact JV.len _), ?_⟩
    refine get_C (v := jv 5 false 0 [] [] [.mk [107] (shiftJ q v) a1] a2) (by simp [jv, JV.mems, big]) ?_
    rw [getV_some (x := shiftJ q v) (by simp [getS, jv, JV.kind, JV.mems, JM.keyOf, JM.val])]
    simp -implicitDefEqProofs only [ob, JV.enc, JV.len, take7, ws, ↓reduceIte, Nat.reduceEqDiff, Nat.reduceAdd, Nat.reduceLeDiff]
    refine alive_C ?_
    simp -implicitDefEqProofs only [ob, JV.enc, JV.len, take7, ws, ↓reduceIte, Nat.reduceEqDiff, Nat.reduceAdd, Nat.reduceLeDiff]
    refine refEqual_C false _ v _ (Nat.le_refl _) (by unfold big; omega) _ _ ?_
    rw [eqJ_shift]
    simp -implicitDefEqProofs only [hxc, q0, ob, JV.enc, JV.len, take7, ws, ↓reduceIte, Nat.reduceEqDiff, Nat.reduceAdd, Nat.reduceLeDiff]
    refine ⟨by decide, fun y hy => (by simp only [List.mem_cons, List.not_mem_nil, or_false] at hy; rcases hy with rfl | rfl <;> exact JV.len _), ?_⟩
    refine refEqual_C false _ v _ (Nat.le_refl _) (by unfold big; omega) _ _ ?_
    rw [eqJ_shift]
    simp -implicitDefEqProofs only [ob, JV.enc, JV.len, take7, ws, ↓reduceIte, Nat.reduceEqDiff, Nat.reduceAdd, Nat.reduceLeDiff]
    refine refEqual_C false _ v _ (Nat.le_refl _) (by unfold big; omega) _ _ ?_
    rw [eqJ_shift]
    simp -implicitDefEqProofs only [ob, JV.enc, JV.len, take7, ws, ↓reduceIte, Nat.reduceEqDiff, Nat.reduceAdd, Nat.reduceLeDiff]
    exact exitNew hw (by rfl) (by rfl) h
  · rw [hm]
    have hsp : Sp ([9, 13] : List UInt8) := by unfold Sp; decide
    have ha := around hp hb (by omega) hsp
    obtain ⟨p, q, a1, a2, a3, hbx⟩ := boxed hp hb (by omega) hsp
    have hbs : boxT ([9, 13] : List UInt8) s = [91] ++ ([9, 13] : List UInt8) ++ s ++ ([9, 13] : List UInt8) ++ [44] ++ ([9, 13] : List UInt8) ++ [123] ++ ([9, 13] : List UInt8) ++ [34, 107, 34] ++ ([9, 13] : List UInt8) ++ [58] ++ s ++ [125] ++ ([9, 13] : List UInt8) ++ [93] := rfl
    have hw1 := parseS_wt ha
    have hw2 := parseS_wt hbx
    have hl1 : (([9, 13] : List UInt8) ++ s ++ ([9, 13] : List UInt8)).length ≤ 3010 := by simp; omega
    have hl2 : (boxT ([9, 13] : List UInt8) s).length ≤ 6100 := by simp [boxT]; omega
    have hsh : (shiftJ (([9, 13] : List UInt8) : List UInt8).length v).wt ≤ 6100 := by omega
    have hgd : ([.str [32], .str [10], .str [9, 13], .str []] : List V).getD (Int.toNat 2) V.und = .str ([9, 13] : List UInt8) := rfl
    refine ⟨by decide, by decide, ?_⟩
    simp -implicitDefEqProofs only [hgd, ob, JV.enc, JV.len, take7, ws, ↓reduceIte, Nat.reduceEqDiff, Nat.reduceAdd, Nat.reduceLeDiff]
    repeat (refine And.intro (by unfold big; first | omega | (simp only [List.length_append, List.length_cons, List.length_nil]; omega)) ?_)
    refine parse_Ce (s := ([9, 13] : List UInt8) ++ s ++ ([9, 13] : List UInt8)) (by simp) (by unfold big; omega) ?_
    rw [parseV_ok ha]
    simp -implicitDefEqProofs only [ob, JV.enc, JV.len, take7, ws, ↓reduceIte, Nat.reduceEqDiff, Nat.reduceAdd, Nat.reduceLeDiff]
    repeat (refine And.intro (by unfold big; first | omega | (simp only [List.length_append, List.length_cons, List.length_nil]; omega)) ?_)
    refine parse_Ce (s := boxT ([9, 13] : List UInt8) s) (by simp [boxT]) (by unfold big; omega) ?_
    rw [parseV_ok hbx]
    have hxc : ∀ (v1 v2 : JV), (jv 4 false 0 [] [v1, v2] [] a3).cells = [.int .i64 4, .bool false, .int .i64 0, .str [], .slc true [.agg v1.cells, .agg v2.cells] .no, .slc false [] .no, .int .i64 (a3 : Int)] := fun v1 v2 => rfl
    have e22 : (((2 : Nat) : Int) != 2) = false := rfl
    have q1 : (Int.toNat 1) = 1 := rfl
    have q0 : (Int.toNat 0) = 0 := rfl
    simp -implicitDefEqProofs only [hxc, e00, e22, q1, q0, ob, JV.enc, JV.len, take7, ws, ↓reduceIte, Nat.reduceEqDiff, Nat.reduceAdd, Nat.reduceLeDiff]
    refine ⟨by decide, fun y hy => (by simp only [List.mem_cons, List.not_mem_nil, or_false] at hy; rcases hy with rfl | rfl <;> exact JV.len _), ?_⟩
    refine get_C (v := jv 5 false 0 [] [] [.mk [107] (shiftJ q v) a1] a2) (by simp [jv, JV.mems, big]) ?_
    rw [getV_some (x := shiftJ q v) (by simp [getS, jv, JV.kind, JV.mems, JM.keyOf, JM.val])]
    simp -implicitDefEqProofs only [ob, JV.enc, JV.len, take7, ws, ↓reduceIte, Nat.reduceEqDiff, Nat.reduceAdd, Nat.reduceLeDiff]
    refine alive_C ?_
    simp -implicitDefEqProofs only [ob, JV.enc, JV.len, take7, ws, ↓reduceIte, Nat.reduceEqDiff, Nat.reduceAdd, Nat.reduceLeDiff]
    refine refEqual_C false _ v _ (Nat.le_refl _) (by unfold big; omega) _ _ ?_
    rw [eqJ_shift]
    simp -implicitDefEqProofs only [hxc, q0, ob, JV.enc, JV.len, take7, ws, ↓reduceIte, Nat.reduceEqDiff, Nat.reduceAdd, Nat.reduceLeDiff]
    refine ⟨by decide, fun y hy => (by simp only [List.mem_cons, List.not_mem_nil, or_false] at hy; rcases hy with rfl | rfl <;> exact JV.len _), ?_⟩
    refine refEqual_C false _ v _ (Nat.le_refl _) (by unfold big; omega) _ _ ?_
    rw [eqJ_shift]
    simp -implicitDefEqProofs only [ob, JV.enc, JV.len, take7, ws, ↓reduceIte, Nat.reduceEqDiff, Nat.reduceAdd, Nat.reduceLeDiff]
    refine refEqual_C false _ v _ (Nat.le_refl _) (by unfold big; omega) _ _ ?_
    rw [eqJ_shift]
    simp -implicitDefEqProofs only [ob, JV.enc, JV.len, take7, ws, ↓reduceIte, Nat.reduceEqDiff, Nat.reduceAdd, Nat.reduceLeDiff]
    exact exitNew hw (by rfl) (by rfl) h
  · rw [hm]
    have hsp : Sp ([] : List UInt8) := by unfold Sp; decide
    have ha := around hp hb (by omega) hsp
    obtain ⟨p, q, a1, a2, a3, hbx⟩ := boxed hp hb (by omega) hsp
    have hbs : boxT ([] : List UInt8) s = [91] ++ ([] : List UInt8) ++ s ++ ([] : List UInt8) ++ [44] ++ ([] : List UInt8) ++ [123] ++ ([] : List UInt8) ++ [34, 107, 34] ++ ([] : List UInt8) ++ [58] ++ s ++ [125] ++ ([] : List UInt8) ++ [93] := rfl
    have hw1 := parseS_wt ha
    have hw2 := parseS_wt hbx
    have hl1 : (([] : List UInt8) ++ s ++ ([] : List UInt8)).length ≤ 3010 := by simp; omega
    have hl2 : (boxT ([] : List UInt8) s).length ≤ 6100 := by simp [boxT]; omega
    have hsh : (shiftJ (([] : List UInt8) : List UInt8).length v).wt ≤ 6100 := by omega
    have hgd : ([.str [32], .str [10], .str [9, 13], .str []] : List V).getD (Int.toNat 3) V.und = .str ([] : List UInt8) := rfl
    refine ⟨by decide, by decide, ?_⟩
    simp -implicitDefEqProofs only [hgd, ob, JV.enc, JV.len, take7, ws, ↓reduceIte, Nat.reduceEqDiff, Nat.reduceAdd, Nat.reduceLeDiff]
    repeat (refine And.intro (by unfold big; first | omega | (simp only [List.length_append, List.length_cons, List.length_nil]; omega)) ?_)
    refine parse_Ce (s := ([] : List UInt8) ++ s ++ ([] : List UInt8)) (by simp) (by unfold big; omega) ?_
    rw [parseV_ok ha]
    simp -implicitDefEqProofs only [ob, JV.enc, JV.len, take7, ws, ↓reduceIte, Nat.reduceEqDiff, Nat.reduceAdd, Nat.reduceLeDiff]
    repeat (refine And.intro (by unfold big; first | omega | (simp only [List.length_append, List.length_cons, List.length_nil]; omega)) ?_)
    refine parse_Ce (s := boxT ([] : List UInt8) s) (by simp [boxT]) (by unfold big; omega) ?_
    rw [parseV_ok hbx]
    have hxc : ∀ (v1 v2 : JV), (jv 4 false 0 [] [v1, v2] [] a3).cells = [.int .i64 4, .bool false, .int .i64 0, .str [], .slc true [.agg v1.cells, .agg v2.cells] .no, .slc false [] .no, .int .i64 (a3 : Int)] := fun v1 v2 => rfl
    have e22 : (((2 : Nat) : Int) != 2) = false := rfl
    have q1 : (Int.toNat 1) = 1 := rfl
    have q0 : (Int.toNat 0) = 0 := rfl
    simp -implicitDefEqProofs only [hxc, e00, e22, q1, q0, ob, JV.enc, JV.len, take7, ws, ↓reduceIte, Nat.reduceEqDiff, Nat.reduceAdd, Nat.reduceLeDiff]
    refine ⟨by decide, fun y hy => (by simp only [List.mem_cons, List.not_mem_nil, or_false] at hy; rcases hy with rfl | rfl <;> exact JV.len _), ?_⟩
    refine get_C (v := jv 5 false 0 [] [] [.mk [107] (shiftJ q v) a1] a2) (by simp [jv, JV.mems, big]) ?_
    rw [getV_some (x := shiftJ q v) (by simp [getS, jv, JV.kind, JV.mems, JM.keyOf, JM.val])]
    simp -implicitDefEqProofs only [ob, JV.enc, JV.len, take7, ws, ↓reduceIte, Nat.reduceEqDiff, Nat.reduceAdd, Nat.reduceLeDiff]
    refine alive_C ?_
    simp -implicitDefEqProofs only [ob, JV.enc, JV.len, take7, ws, ↓reduceIte, Nat.reduceEqDiff, Nat.reduceAdd, Nat.reduceLeDiff]
    refine refEqual_C false _ v _ (Nat.le_refl _) (by unfold big; omega) _ _ ?_
    rw [eqJ_shift]
    simp -implicitDefEqProofs only [hxc, q0, ob, JV.enc, JV.len, take7, ws, ↓reduceIte, Nat.reduceEqDiff, Nat.reduceAdd, Nat.reduceLeDiff]
    refine ⟨by decide, fun y hy => (by simp only [List.mem_cons, List.not_mem_nil, or_false] at hy; rcases hy with rfl | rfl <;> exact JV.len _), ?_⟩
    refine refEqual_C false _ v _ (Nat.le_refl _) (by unfold big; omega) _ _ ?_
    rw [eqJ_shift]
    simp -implicitDefEqProofs only [ob, JV.enc, JV.len, take7, ws, ↓reduceIte, Nat.reduceEqDiff, Nat.reduceAdd, Nat.reduceLeDiff]
    refine refEqual_C false _ v _ (Nat.le_refl _) (by unfold big; omega) _ _ ?_
    rw [eqJ_shift]
    simp -implicitDefEqProofs only [ob, JV.enc, JV.len, take7, ws, ↓reduceIte, Nat.reduceEqDiff, Nat.reduceAdd, Nat.reduceLeDiff]
    exact exitNew hw (by rfl) (by rfl) h
end Go.Proofs.YtgdcdkgmeomhpaaGreatDoor

namespace Go.Proofs.YtgdcdkgmeomhpaaGreatDoor
open Go Go.Vs Go.RowKit Go.ChangeShapes

/-- How many cells a block has. -/
def prOf (w : World) (b : Nat) : Nat := match w.heap[b]? with
  | some (.cells c _ _) => c.size
  | _ => 0
/-- The memory at the start: nothing of it is the abstract store's. -/
def mem0 (G : List (Nat × List V)) (w : World) : Mem := ⟨w.heap.size, G, 0, fun _ => 0, 0, fun _ => 0, prOf w, fun _ => (0, 0, 0), [], fun _ => 0⟩
def st0 : St := ⟨[], [], [], [], []⟩

def GOk (w : World) (G : List (Nat × List V)) : Prop :=
  ∀ (g : Nat) (cs : List V), (g, cs) ∈ G → g < w.heap.size ∧ ∃ us, RVs (mem0 G w) w cs us ∧ w.rangeAt g 0 us ∧ us.length ≤ prOf w g ∧ ∀ u ∈ us, u.oneCell' = true

theorem rel0 {G : List (Nat × List V)} {w : World} (h : GOk w G) : Rel (mem0 G w) st0 w where
  n := rfl
  nm := rfl
  tl := rfl
  base := Nat.le_refl _
  past b hb := by show prOf w b = 0; rw [prOf, Array.getElem?_eq_none hb]
  glob := h
  obj o cs ho := by cases ho
  inj o o' ho := by cases ho
  map r es hr := by cases hr
  minj r r' hr := by cases hr
  tok t ht := by cases ht
  tinj t t' ht := by cases ht
  mo r o hr := by cases hr
  mt r t hr := by cases hr
  tys := rfl
  ty o e ho := by cases ho
  tts := rfl
  tt i e hi := by cases hi

/-- The law's call, out of its contract. -/
theorem law_calls {X : Ctx} {f : FuncId} {args : List V} {us : List Value} {W : World} (hC : C X f args st0 fun o _ => o = .ret (.bool true)) (hG : GOk W X.G) (hus : RVs (mem0 X.G W) W args us) :
    Calls X.P f us.toArray W fun e W' => e = .returned (.bool true) ∧ Below W.heap.size W W' := by
  refine (hC.2 (mem0 X.G W) W us rfl (rel0 hG) hus).mono fun e W' ⟨μ', σ', out, hq, hev, _, ho⟩ => ?_
  subst hq
  obtain ⟨u, hu, rfl⟩ := ho
  cases hu
  exact ⟨rfl, hev.os, hev.tape, hev.output, hev.size, hev.old⟩

section
variable {P : Program} {w : World} {G : List (Nat × List V)}

theorem var_block {n : String} {g : Nat} {cs : Array Value} (hg : P.globalNamed n = some g) (h : w.var? P n = some cs) : ∃ t fz, w.heap[g]? = some (.cells cs t fz) := by
  simp only [World.var?, hg, Option.bind_some] at h
  split at h
  · rename_i c t fz hh
    cases h
    exact ⟨t, fz, hh⟩
  · cases h

theorem gfact {n : String} {g : Nat} {cs : Array Value} {vs : List V} (hg : P.globalNamed n = some g) (h : w.var? P n = some cs) (hr : RVs (mem0 G w) w vs cs.toList) (h1 : ∀ u ∈ cs.toList, u.oneCell' = true) :
    g < w.heap.size ∧ ∃ us, RVs (mem0 G w) w vs us ∧ w.rangeAt g 0 us ∧ us.length ≤ prOf w g ∧ ∀ u ∈ us, u.oneCell' = true := by
  obtain ⟨t, fz, hb⟩ := var_block hg h
  refine ⟨(Array.getElem?_eq_some_iff.1 hb).1, cs.toList, hr, fun j v hv => ?_, ?_, h1⟩
  · rw [World.var?_cell hg h, Nat.zero_add]
    simpa using hv
  · rw [prOf, hb]; simp

theorem rvs8 (l : List Nat) : RVs (mem0 G w) w (cells8 l) (l.map fun (n : Nat) => Value.int .u8 (n : Int)) := by
  refine ⟨by simp [cells8], fun i hi => ?_⟩
  have hi' : i < l.length := by simpa [cells8] using hi
  have e1 : (cells8 l).getD i .und = .int .u8 (l[i] : Int) := by simp [cells8, List.getD_eq_getElem?_getD, List.getElem?_eq_getElem hi']
  have e2 : (l.map fun (n : Nat) => Value.int .u8 (n : Int)).getD i undef = .int .u8 (l[i] : Int) := by simp [List.getD_eq_getElem?_getD, List.getElem?_eq_getElem hi']
  rw [e1, e2]
  exact .int _ _

theorem gfact8 {n : String} {g : Nat} {cs : Array Value} {l : List Nat} (hg : P.globalNamed n = some g) (h : w.var? P n = some cs) (e : cs.toList = l.map fun (n : Nat) => Value.int .u8 (n : Int)) :
    g < w.heap.size ∧ ∃ us, RVs (mem0 G w) w (cells8 l) us ∧ w.rangeAt g 0 us ∧ us.length ≤ prOf w g ∧ ∀ u ∈ us, u.oneCell' = true :=
  gfact hg h (by rw [e]; exact rvs8 l) (by rw [e]; intro u hu; obtain ⟨n, _, rfl⟩ := List.mem_map.1 hu; rfl)

theorem of_chunks {α : Type} (k : Nat) : ∀ (L : List (List α)) (cs : List α), cs.length = L.length * k → (∀ i, i < L.length → (cs.drop (i * k)).take k = L.getD i []) → cs = L.flatten
  | [], cs, hl, _ => by simpa using hl
  | c :: r, cs, hl, h => by
    have h0 := h 0 (by simp)
    simp only [Nat.zero_mul, List.drop_zero, List.getD_cons_zero] at h0
    have hr := of_chunks k r (cs.drop k) (by simp only [List.length_drop, hl, List.length_cons, Nat.succ_mul]; omega) fun i hi => by
      have := h (i + 1) (by simpa using hi)
      rw [List.getD_cons_succ, Nat.succ_mul] at this
      rw [List.drop_drop, Nat.add_comm]
      exact this
    rw [List.flatten_cons, ← hr, ← h0, List.take_append_drop]

/-- An array of arrays or of structs of bytes. -/
theorem chunks_of {fuel : Nat} {t e : TypeId} {n k : Nat} {cs : List Value} {L : List (List Nat)} {p : List MemPlace} (ht : P.underlying t = some (.array n e)) (hce : P.cellsOf e = k) (hL : L.length = n) (hct : P.cellsOf t = n * k)
    (he : ∀ (fuel : Nat) (cs : List Value) (l : List Nat) (q : List MemPlace), DataW.trod (fun _ => ()) P w 0 (fun _ => true) false fuel e cs = some (.agg ((l.map fun (x : Nat) => (x : Int)).map fun z => .lit (.int .u8 z)), q) → cs = l.map fun (x : Nat) => Value.int .u8 (x : Int))
    (h : DataW.trod (fun _ => ()) P w 0 (fun _ => true) false fuel t cs = some (.agg (L.map fun l => .agg ((l.map fun (x : Nat) => (x : Int)).map fun z => .lit (.int .u8 z))), p)) :
    cs = L.flatten.map fun (x : Nat) => Value.int .u8 (x : Int) := by
  have hlen : cs.length = n * k := by
    cases fuel with
    | zero => simp [DataW.trod] at h
    | succ fuel =>
      simp only [DataW.trod, ht] at h
      split at h
      · rename_i hl; rw [hl, hct]
      · cases h
  rw [List.map_flatten]
  refine of_chunks k _ cs (by simp [hL, hlen]) fun i hi => ?_
  have hi' : i < n := by simpa [hL] using hi
  obtain ⟨fuel', d, q, hdi, hd⟩ := Lib.array_elem ht h i hi'
  have hiL : i < L.length := by omega
  simp only [List.getElem?_map, List.getElem?_eq_getElem hiL, Option.map_some, Option.some.injEq] at hdi
  subst hdi
  rw [hce] at hd
  rw [he _ _ _ _ hd]
  simp [List.getD_eq_getElem?_getD, List.getElem?_eq_getElem hiL]

/-- An error that is listed. -/
theorem gfact_err {n : String} {g : Nat} {t : TypeId} {cs : Array Value} {a : Addr} {s : ByteArray} (hg : P.globalNamed n = some g) (h : w.var? P n = some cs) (e : cs.toList = [.iface t (.pointer (some a))]) (hc : w.cell? a = some (.string s)) :
    g < w.heap.size ∧ ∃ us, RVs (mem0 G w) w [.iface t (.eptr [])] us ∧ w.rangeAt g 0 us ∧ us.length ≤ prOf w g ∧ ∀ u ∈ us, u.oneCell' = true := by
  have hs := World.cell?_spot hc
  obtain ⟨b, off, sp⟩ := a
  simp only at hs
  subst hs
  refine gfact hg h ?_ (by rw [e]; intro u hu; rw [List.mem_singleton.1 hu]; rfl)
  rw [e]
  refine ⟨rfl, fun i hi => ?_⟩
  simp only [List.length_cons, List.length_nil] at hi
  obtain rfl : i = 0 := by omega
  simp only [List.getD_cons_zero]
  refine .iface _ _ _ (.eptr [] [] b off rfl (fun j v hv => by simp at hv) ?_ (fun u hu => by cases hu) fun i hi => by cases hi)
  show off + 0 ≤ prOf w b
  simp only [World.cell?] at hc
  split at hc
  · rename_i c t' fz hb
    simp only [Option.isSome_none, Bool.false_eq_true, if_false] at hc
    have := (Array.getElem?_eq_some_iff.1 hc).1
    have e : prOf w b = c.size := by rw [prOf, hb]
    omega
  · cases hc
end
end Go.Proofs.YtgdcdkgmeomhpaaGreatDoor

namespace Go.Proofs.YtgdcdkgmeomhpaaGreatDoor
open Go Go.Vs Go.RowKit Go.ChangeShapes
set_option maxRecDepth 100000

noncomputable abbrev PP : Program := Go.Proofs.Tryz.prog

theorem p_letters : PP.globalNamed "feedvault/jsonstring.letters" = some 0 := by kernel_rfl
theorem p_first : PP.globalNamed "unicode/utf8.first" = some 4 := by kernel_rfl
theorem p_accept : PP.globalNamed "unicode/utf8.acceptRanges" = some 5 := by kernel_rfl
theorem p_syntax : PP.globalNamed "strconv.ErrSyntax" = some 2 := by kernel_rfl
theorem p_range : PP.globalNamed "strconv.ErrRange" = some 3 := by kernel_rfl
theorem y_letters : (PP.globals[0]?).map (·.type) = some 108 := by kernel_rfl
theorem y_first : (PP.globals[4]?).map (·.type) = some 129 := by kernel_rfl
theorem y_accept : (PP.globals[5]?).map (·.type) = some 132 := by kernel_rfl
theorem y_syntax : (PP.globals[2]?).map (·.type) = some 77 := by kernel_rfl
theorem y_range : (PP.globals[3]?).map (·.type) = some 77 := by kernel_rfl
theorem u_u8 : PP.underlying 5 = some (.int .u8) := by kernel_rfl
theorem u_letters : PP.underlying 108 = some (.array 5 107) := by kernel_rfl
theorem u_pair : PP.underlying 107 = some (.array 2 5) := by kernel_rfl
theorem u_first : PP.underlying 129 = some (.array 256 5) := by kernel_rfl
theorem u_accepts : PP.underlying 132 = some (.array 16 131) := by kernel_rfl
theorem c_u8 : PP.cellsOf 5 = 1 := by kernel_rfl
theorem c_pair : PP.cellsOf 107 = 2 := by kernel_rfl
theorem c_letters : PP.cellsOf 108 = 10 := by kernel_rfl
theorem c_first : PP.cellsOf 129 = 256 := by kernel_rfl
theorem c_accept : PP.cellsOf 131 = 2 := by kernel_rfl
theorem c_accepts : PP.cellsOf 132 = 32 := by kernel_rfl
theorem c_errS : PP.cellsOf 138 = 1 := by kernel_rfl
theorem c_str : PP.cellsOf 9 = 1 := by kernel_rfl
theorem u_str : PP.underlying 9 = some .string := by kernel_rfl
theorem u_bool : PP.underlying 4 = some .bool := by kernel_rfl
theorem u_bytes : PP.underlying 89 = some (.slice 5) := by kernel_rfl
theorem u_pErr : PP.underlying 136 = some (.pointer 138) := by kernel_rfl
theorem star : "*" ++ "errors.errorString" = "*errors.errorString" := by decide
theorem rowErr (u : TypeId) (h : PP.typeName? 3 u = some "*errors.errorString") : u = 136 :=
  typeName_ptr_named (nm := "errors.errorString") (by rw [star]; kernel_rfl) (by kernel_rfl) (by decide) u (by rw [star]; exact h)

def pairs : List (List Nat) := [[98, 8], [102, 12], [110, 10], [114, 13], [116, 9]]
def ranges : List (List Nat) := [[128, 191], [160, 191], [128, 159], [144, 191], [128, 143], [0, 0], [0, 0], [0, 0], [0, 0], [0, 0], [0, 0], [0, 0], [0, 0], [0, 0], [0, 0], [0, 0]]
theorem pairs_flat : pairs.flatten = lettersN := by rfl
theorem ranges_flat : ranges.flatten = acceptN := by rfl

section
variable {w : World}
theorem pair_cells (fuel : Nat) (cs : List Value) (l : List Nat) (q : List MemPlace) (h : DataW.trod (fun _ => ()) PP w 0 (fun _ => true) false fuel 107 cs = some (.agg ((l.map fun (x : Nat) => (x : Int)).map fun z => .lit (.int .u8 z)), q)) : cs = l.map fun (x : Nat) => Value.int .u8 (x : Int) := by
  rw [Lib.cells_of_tab u_pair u_u8 c_u8 c_pair h, List.map_map]
  rfl
theorem accept_cells (fuel : Nat) (cs : List Value) (l : List Nat) (q : List MemPlace) (h : DataW.trod (fun _ => ()) PP w 0 (fun _ => true) false fuel 131 cs = some (.agg ((l.map fun (x : Nat) => (x : Int)).map fun z => .lit (.int .u8 z)), q)) : cs = l.map fun (x : Nat) => Value.int .u8 (x : Int) := by
  obtain ⟨fs, hu, hf, hs⟩ : ∃ fs, PP.underlying 131 = some (.struct fs) ∧ (∀ (i : Nat) (f : Field), fs[i]? = some f → PP.underlying f.type = some (.int .u8) ∧ f.offset = i ∧ PP.cellsOf f.type = 1) ∧ PP.cellsOf 131 = fs.size :=
    ⟨#[⟨"lo", 5, 0, false, "", "unicode/utf8", 0⟩, ⟨"hi", 5, 1, false, "", "unicode/utf8", 1⟩], by kernel_rfl, fun i f h => by
      match i, h with
      | 0, h => simp at h; subst h; exact ⟨u_u8, rfl, c_u8⟩
      | 1, h => simp at h; subst h; exact ⟨u_u8, rfl, c_u8⟩
      | i + 2, h => simp at h, c_accept⟩
  rw [Lib.ints_of_struct hu hf hs h, List.map_map]
  rfl

theorem g_letters_ok {G : List (Nat × List V)} (h : Lib.VarReads PP w "feedvault/jsonstring.letters" Rows.laid_feedvault_jsonstring_letters) :
    0 < w.heap.size ∧ ∃ us, RVs (mem0 G w) w (cells8 lettersN) us ∧ w.rangeAt 0 0 us ∧ us.length ≤ prOf w 0 ∧ ∀ u ∈ us, u.oneCell' = true := by
  obtain ⟨g, t, cs, fuel, p, hg, ht, hv, hd⟩ := h
  obtain rfl := Option.some.inj (p_letters.symm.trans hg)
  obtain rfl := Option.some.inj (y_letters.symm.trans ht)
  have hd' : DataW.trod (fun _ => ()) PP w 0 (fun _ => true) false fuel 108 cs.toList = some (.agg (pairs.map fun l => .agg ((l.map fun (x : Nat) => (x : Int)).map fun z => .lit (.int .u8 z))), p) := hd
  exact gfact8 hg hv (by rw [← pairs_flat]; exact chunks_of u_letters c_pair rfl c_letters pair_cells hd')
theorem g_accept_ok {G : List (Nat × List V)} (h : Lib.VarReads PP w "unicode/utf8.acceptRanges" Rows.laid_unicode_utf8_acceptRanges) :
    5 < w.heap.size ∧ ∃ us, RVs (mem0 G w) w (cells8 acceptN) us ∧ w.rangeAt 5 0 us ∧ us.length ≤ prOf w 5 ∧ ∀ u ∈ us, u.oneCell' = true := by
  obtain ⟨g, t, cs, fuel, p, hg, ht, hv, hd⟩ := h
  obtain rfl := Option.some.inj (p_accept.symm.trans hg)
  obtain rfl := Option.some.inj (y_accept.symm.trans ht)
  have hd' : DataW.trod (fun _ => ()) PP w 0 (fun _ => true) false fuel 132 cs.toList = some (.agg (ranges.map fun l => .agg ((l.map fun (x : Nat) => (x : Int)).map fun z => .lit (.int .u8 z))), p) := hd
  exact gfact8 hg hv (by rw [← ranges_flat]; exact chunks_of u_accepts c_accept rfl c_accepts accept_cells hd')
theorem first_data : (Rows.laid_unicode_utf8_first : DataW Unit) = Lib.tabData .u8 (firstN.map fun (x : Nat) => (x : Int)) := by kernel_rfl
theorem g_first_ok {G : List (Nat × List V)} (h : Lib.VarReads PP w "unicode/utf8.first" Rows.laid_unicode_utf8_first) :
    4 < w.heap.size ∧ ∃ us, RVs (mem0 G w) w (cells8 firstN) us ∧ w.rangeAt 4 0 us ∧ us.length ≤ prOf w 4 ∧ ∀ u ∈ us, u.oneCell' = true := by
  rw [first_data] at h
  obtain ⟨g, t, cs, fuel, p, hg, ht, hv, hd⟩ := h
  obtain rfl := Option.some.inj (p_first.symm.trans hg)
  obtain rfl := Option.some.inj (y_first.symm.trans ht)
  exact gfact8 hg hv (by rw [Lib.cells_of_tab u_first u_u8 c_u8 c_first hd, List.map_map]; rfl)

theorem g_err_ok {G : List (Nat × List V)} {n : String} {g : Nat} {text : List UInt8} (hn : PP.globalNamed n = some g) (hy : (PP.globals[g]?).map (·.type) = some 77)
    (h : Lib.VarReads PP w n (.iface "*errors.errorString" (.ptr (.agg [.lit (.string text)])))) (hok : ∀ cs : Array Value, w.var? PP n = some cs → ∀ u v, cs.toList = [.iface u v] → Value.okWide PP w .any 0 u v) :
    g < w.heap.size ∧ ∃ us, RVs (mem0 G w) w [.iface 136 (.eptr [])] us ∧ w.rangeAt g 0 us ∧ us.length ≤ prOf w g ∧ ∀ u ∈ us, u.oneCell' = true := by
  obtain ⟨g', t, cs, fuel, p, hg, ht, hv, hd⟩ := h
  obtain rfl := Option.some.inj (hn.symm.trans hg)
  obtain rfl := Option.some.inj (hy.symm.trans ht)
  obtain ⟨ms, hms⟩ : ∃ ms, PP.underlying 77 = some (.interface ms) := by
    have : (match PP.underlying 77 with | some (.interface _) => true | _ => false) = true := by kernel_rfl
    split at this
    · rename_i ms hms; exact ⟨ms, hms⟩
    · cases this
  obtain ⟨f, hft, h1, h2⟩ : ∃ f, PP.underlying 138 = some (.struct #[f]) ∧ f.type = 9 ∧ f.offset = 0 := ⟨⟨"s", 9, 0, false, "", "errors", 0⟩, by kernel_rfl, rfl, rfl⟩
  obtain ⟨a, s, hcs, hc, _⟩ := errorString_of_trod hms rowErr u_pErr hft h1 h2 u_str c_errS c_str hd fun u v e => hok cs hv u v e
  exact gfact_err hg hv hcs hc

theorem laid_place {P : Program} {w : World} : ∀ {l : List (String × DataW Unit)} {ps : List MemPlace} {n : String} {d : DataW Unit} {g : Nat} {cs : Array Value} {i : Nat}, DataW.LaidVars P w l ps → (n, d) ∈ l → P.globalNamed n = some g → w.var? P n = some cs → i < cs.size → MemPlace.cell g i ∈ ps
  | [], _, _, _, _, _, _, _, hm, _, _, _ => by cases hm
  | (n', d') :: r, ps, n, d, g, cs, i, h, hm, hg, hv, hi => by
    obtain ⟨g', t', cs', fuel, p, q, h1, h2, h3, h4, h5, rfl⟩ := h
    rcases List.mem_cons.1 hm with e | e
    · cases e
      obtain rfl := Option.some.inj (hg.symm.trans h1)
      obtain rfl := Option.some.inj (hv.symm.trans h3)
      exact List.mem_append_left _ (List.mem_append_left _ (List.mem_map.2 ⟨i, List.mem_range.2 hi, by simp⟩))
    · exact List.mem_append_right _ (laid_place h5 e hg hv hi)

/-- All that is listed is as the value semantics wants it. -/
theorem gok_of_laid {l : List (String × DataW Unit)} (h : laidMet PP l w) (h1 : ("feedvault/jsonstring.letters", Rows.laid_feedvault_jsonstring_letters) ∈ l) (h2 : ("unicode/utf8.first", Rows.laid_unicode_utf8_first) ∈ l)
    (h3 : ("unicode/utf8.acceptRanges", Rows.laid_unicode_utf8_acceptRanges) ∈ l) (h4 : ("strconv.ErrSyntax", Rows.laid_strconv_ErrSyntax) ∈ l) (h5 : ("strconv.ErrRange", Rows.laid_strconv_ErrRange) ∈ l) : GOk w Gs := by
  have hok : ∀ n d g, (n, d) ∈ l → PP.globalNamed n = some g → ∀ cs : Array Value, w.var? PP n = some cs → ∀ u v, cs.toList = [.iface u v] → Value.okWide PP w .any 0 u v := by
    obtain ⟨ps, hv, _, hr⟩ := h
    intro n d g hm hg cs hcs u v e
    have hp := laid_place hv hm hg hcs (i := 0) (by rw [← Array.length_toList, e]; simp)
    refine (hr g 0 hp).2 u v ?_
    rw [World.var?_cell hg hcs, ← Array.getElem?_toList, e]
    rfl
  intro g cs hg
  simp only [Gs, List.mem_cons, Prod.mk.injEq, List.not_mem_nil, or_false] at hg
  rcases hg with ⟨rfl, rfl⟩ | ⟨rfl, rfl⟩ | ⟨rfl, rfl⟩ | ⟨rfl, rfl⟩ | ⟨rfl, rfl⟩
  · exact g_letters_ok (Lib.laidMet.reads h h1)
  · exact g_first_ok (Lib.laidMet.reads h h2)
  · exact g_accept_ok (Lib.laidMet.reads h h3)
  · exact g_err_ok p_syntax y_syntax (Lib.laidMet.reads h h4) (hok _ _ _ h4 p_syntax)
  · exact g_err_ok p_range y_range (Lib.laidMet.reads h h5) (hok _ _ _ h5 p_range)
end
end Go.Proofs.YtgdcdkgmeomhpaaGreatDoor

namespace Go.Proofs.YtgdcdkgmeomhpaaGreatDoor
open Go Go.Vs Go.RowKit Go.ChangeShapes
set_option maxRecDepth 100000
section
variable {H : Type} {enc : TypeId × Value → H} {P : Program} {w : World} {G : List (Nat × List V)} {sp : Nat → Bool} {held : Bool}

theorem add_add (a : Addr) (m n : Nat) : (a.add m).add n = a.add (m + n) := by
  unfold Addr.add
  by_cases hm : m = 0
  · subst hm; simp
  · by_cases hn : n = 0
    · subst hn; simp [hm]
    · simp [hm, hn, Nat.add_assoc]

/-- Cells that read as an element stand for an abstract value of the kind R. -/
def ElemOk (enc : TypeId × Value → H) (P : Program) (w : World) (G : List (Nat × List V)) (sp : Nat → Bool) (held : Bool) (n : Nat) (e : TypeId) (sz : Nat) (R : V → Prop) : Prop :=
  ∀ (cs : List Value) (x : DataW H × List MemPlace), cs.length = sz → DataW.trod enc P w 0 sp held n e cs = some x → ∃ v, R v ∧ v.cells.length = sz ∧ RVs (mem0 G w) w v.cells cs ∧ ∀ u ∈ cs, u.oneCell' = true

theorem rv_slice {fuel : Nat} {t e : TypeId} {sz : Nat} {R : V → Prop} {cs : List Value} {x : DataW H × List MemPlace} (ht : P.underlying t = some (.slice e)) (hsz : P.cellsOf e = sz) (h0 : 0 < sz)
    (hel : ∀ n, n < fuel → ElemOk enc P w G sp held n e sz R) (h : DataW.trod enc P w 0 sp held fuel t cs = some x) :
    ∃ nn xs u, cs = [u] ∧ (∀ v ∈ xs, R v) ∧ RV (mem0 G w) w (.slc nn xs .no) u ∧ u.oneCell' = true ∧ (nn = false → xs = []) ∧ xs.length ≤ maxLen := by
  rcases DataW.trod_slice ht h with ⟨rfl, _⟩ | ⟨a, len, cap, elems, rest, n, rfl, rfl, _, _, hlc, hcm, hlen, hat, _, _⟩
  · exact ⟨false, [], _, rfl, fun v hv => (by cases hv), .nils, rfl, fun _ => rfl, Nat.zero_le _⟩
  rw [hsz] at hat
  have each : ∀ i, i < len → ∃ ci x, w.cells? 0 (a.add (i * sz)) sz = some ci ∧ DataW.trod enc P w 0 sp held n e ci = some x := fun i hi => by
    have h1 := hat i hi
    rw [List.getElem?_eq_getElem (by omega), Option.bind_eq_some_iff] at h1
    obtain ⟨ci, h2, h3⟩ := h1
    exact ⟨ci, _, h2, h3⟩
  have build : ∀ m, m ≤ len → ∃ (xs : List V) (us : List Value), xs.length = m ∧ us.length = m * sz ∧ (∀ v ∈ xs, R v ∧ v.cells.length = sz) ∧ (∀ j u, us[j]? = some u → w.cell? (a.add j) = some u) ∧ (∀ u ∈ us, u.oneCell' = true) ∧
      ∀ i, i < m → ∀ j, j < sz → RV (mem0 G w) w ((xs.getD i .und).cells.getD j .und) (us.getD (i * sz + j) undef) := by
    intro m
    induction m with
    | zero => exact fun _ => ⟨[], [], rfl, by simp, fun v hv => (by cases hv), fun j u hj => (by simp at hj), fun u hu => (by cases hu), fun i hi => by omega⟩
    | succ m ih =>
      intro hm
      obtain ⟨xs, us, l1, l2, hR, hc, h1, hrv⟩ := ih (by omega)
      obtain ⟨ci, y, hci, hy⟩ := each m (by omega)
      obtain ⟨_, l3, hcc⟩ := World.cells?_some hci
      obtain ⟨v, hv, lv, ⟨lr, hr⟩, hone⟩ := hel n (by omega) ci y l3 hy
      refine ⟨xs ++ [v], us ++ ci, by simp [l1], by simp [l2, l3, Nat.succ_mul], ?_, ?_, ?_, ?_⟩
      · intro z hz
        rcases List.mem_append.1 hz with hz | hz
        · exact hR z hz
        · rw [List.mem_singleton.1 hz]; exact ⟨hv, lv⟩
      · intro j u hj
        by_cases hjl : j < us.length
        · rw [List.getElem?_append_left hjl] at hj; exact hc j u hj
        · rw [List.getElem?_append_right (by omega)] at hj
          have hlt := (List.getElem?_eq_some_iff.1 hj).1
          have := hcc (j - us.length) (by omega)
          rw [add_add, l2, show m * sz + (j - m * sz) = j by omega] at this
          rw [this, ← hj, l2]
      · intro u hu
        rcases List.mem_append.1 hu with hu | hu
        · exact h1 u hu
        · exact hone u hu
      · intro i hi j hj
        by_cases him : i < m
        · have hlt : i * sz + j < us.length := by
            have := Nat.mul_le_mul_right sz (show i + 1 ≤ m by omega)
            rw [Nat.succ_mul] at this
            omega
          have e1 : (xs ++ [v]).getD i .und = xs.getD i .und := by simp only [List.getD_eq_getElem?_getD]; rw [List.getElem?_append_left (by omega)]
          have e2 : (us ++ ci).getD (i * sz + j) undef = us.getD (i * sz + j) undef := by simp only [List.getD_eq_getElem?_getD]; rw [List.getElem?_append_left hlt]
          rw [e1, e2]
          exact hrv i him j hj
        · obtain rfl : i = m := by omega
          have e1 : (xs ++ [v]).getD i .und = v := by simp [List.getD_eq_getElem?_getD, l1]
          have e2 : (us ++ ci).getD (i * sz + j) undef = ci.getD j undef := by
            simp only [List.getD_eq_getElem?_getD]
            rw [List.getElem?_append_right (by omega), l2, show i * sz + j - i * sz = j by omega]
          rw [e1, e2]
          exact hr j (by omega)
  obtain ⟨xs, us, l1, l2, hR, hc, h1, hrv⟩ := build len (Nat.le_refl _)
  refine ⟨true, xs, _, rfl, fun v hv => (hR v hv).1, ?_, rfl, fun h => (by cases h), by omega⟩
  by_cases hl0 : len = 0
  · subst hl0
    obtain rfl : xs = [] := List.length_eq_zero_iff.1 l1
    exact .slc0 a cap
  · have hpos : 0 < len * sz := Nat.mul_pos (by omega) h0
    obtain ⟨u0, hu0⟩ : ∃ u, us[0]? = some u := ⟨us[0]'(by omega), List.getElem?_eq_getElem (by omega)⟩
    have hs := World.cell?_spot (hc 0 u0 hu0)
    obtain ⟨b, off, spt⟩ := a
    simp only [Addr.add, if_true] at hs
    subst hs
    obtain ⟨ul, hul⟩ : ∃ u, us[len * sz - 1]? = some u := ⟨us[len * sz - 1]'(by omega), List.getElem?_eq_getElem (by omega)⟩
    have hcl := hc _ ul hul
    rw [Addr.add_mid] at hcl
    have hpr : off + us.length ≤ prOf w b := by
      simp only [World.cell?] at hcl
      split at hcl
      · rename_i c t' fz hb
        simp only [Option.isSome_none, Bool.false_eq_true, if_false] at hcl
        have := (Array.getElem?_eq_some_iff.1 hcl).1
        have e : prOf w b = c.size := by rw [prOf, hb]
        omega
      · cases hcl
    rw [← l1]
    refine .slc xs .no b off cap sz us (fun v hv => (hR v hv).2) (by rw [l2, l1]) (fun j u hj => by have := hc j u hj; rwa [Addr.add_mid] at this) hpr h1 (fun i hi j hj => hrv i (by omega) j hj) trivial (by omega)
end

section
variable {H : Type} {enc : TypeId × Value → H} {w : World} {G : List (Nat × List V)} {sp : Nat → Bool} {held : Bool}

theorem elem_u8 (n : Nat) : ElemOk enc PP w G sp held n 5 1 (fun v => ∃ c : UInt8, v = .int .u8 (c.toNat : Int)) := by
  intro cs x _ h
  obtain ⟨z, rfl, _, hw⟩ := DataW.trod_int u_u8 h
  have hz : 0 ≤ z ∧ z ≤ 255 := by simpa [Lit.wf, IntKind.min, IntKind.max, IntKind.signed, IntKind.bits] using hw
  refine ⟨.int .u8 z, ⟨UInt8.ofNat z.toNat, ?_⟩, rfl, ⟨rfl, fun i hi => ?_⟩, fun u hu => by rw [List.mem_singleton.1 hu]; rfl⟩
  · have : (UInt8.ofNat z.toNat).toNat = z.toNat := by simp; omega
    rw [this]
    congr 1
    omega
  · simp only [V.cells, List.length_cons, List.length_nil] at hi
    obtain rfl : i = 0 := by omega
    exact .int _ _
theorem bytes_list : ∀ {xs : List V}, (∀ v ∈ xs, ∃ c : UInt8, v = .int .u8 (c.toNat : Int)) → ∃ ds, xs = bytesV ds
  | [], _ => ⟨[], rfl⟩
  | v :: r, h => by
    obtain ⟨c, rfl⟩ := h v (by simp)
    obtain ⟨ds, rfl⟩ := bytes_list (xs := r) fun v hv => h v (by simp [hv])
    exact ⟨c :: ds, rfl⟩

theorem rv_bytes {b0 : Nat} {v : Value} {d : DataW H} {ps : List MemPlace} (hval : Value.okWide PP w .any b0 89 v) (hd : DataW.Trod enc PP w 0 sp held 89 v d ps) : ∃ nn ds, RV (mem0 G w) w (.slc nn (bytesV ds) .no) v := by
  obtain ⟨fuel, hf⟩ := hd
  obtain ⟨nn, xs, u, hu, hR, hrv, _⟩ := rv_slice (G := G) u_bytes c_u8 (by omega) (fun n _ => elem_u8 n) hf
  obtain ⟨ds, rfl⟩ := bytes_list hR
  obtain ⟨a, len, cap, rfl⟩ := WideShapes.okWide_slice u_bytes hval
  have : u = .slice a len cap := by simpa [Value.cells] using hu.symm
  exact ⟨nn, ds, this ▸ hrv⟩
end
end Go.Proofs.YtgdcdkgmeomhpaaGreatDoor

namespace Go.Proofs.YtgdcdkgmeomhpaaGreatDoor
open Go Go.Vs Go.RowKit Go.ChangeShapes
set_option maxRecDepth 100000

theorem own : ownKnob PP.godebug = none := by kernel_rfl
theorem laidOutP : laidOutB PP = true := by kernel_rfl

theorem trodAll_stays {H : Type} {enc : TypeId × Value → H} {P : Program} (hl : laidOutB P = true) {W W' : World} (hb : Below W.heap.size W W') :
    ∀ {ts : List TypeId} {vs : List Value} {ds : List (DataW H)} {ps : List MemPlace}, (ts.all fun t => P.readableRec t && decide (t < P.types.size)) = true → (∀ x ∈ ps, x.block < W.heap.size) → DataW.TrodAll enc P W 0 (fun _ => true) true ts vs ds ps →
      DataW.TrodAll enc P W' 0 (fun b => decide (b < W.heap.size)) true ts vs ds ps
  | [], [], [], _, _, _, h => h
  | t :: ts, v :: vs, d :: ds, ps, ht, hp, h => by
    obtain ⟨p, q, h1, h2, rfl⟩ := h
    simp only [List.all_cons, Bool.and_eq_true, decide_eq_true_eq] at ht
    exact ⟨p, q, Below.trod hl ht.1.1 ht.1.2 h1 hb (fun x hx => hp x (List.mem_append_left _ hx)), trodAll_stays hl hb (by simpa using ht.2) (fun x hx => hp x (List.mem_append_right _ hx)) h2, rfl⟩
  | [], [], _ :: _, _, _, _, h => h.elim
  | [], _ :: _, _, _, _, _, h => h.elim
  | _ :: _, [], _, _, _, _, h => h.elim
  | _ :: _, _ :: _, [], _, _, _, h => h.elim

/-- What a law leaves that returns true and turns nothing that was there. -/
theorem law_post {H : Type} {enc : TypeId × Value → H} {fn : Func} {s : ChangeSpec} {W W' : World} {args : Array Value} {ds gs : List (DataW H)} {before : List MemPlace} (hv : s.vars = []) (hr : fn.resultTypes = #[4])
    (hts : (fn.params.toList.all fun t => PP.readableRec t && decide (t < PP.types.size)) = true) (hs : gs = [] → s.fn H (ds ++ gs) = { results := [.lit (.bool true)], args := ds })
    (hw : DataW.Whole enc PP fn.params.toList s.vars false W args.toList ds gs before) (hb : Below W.heap.size W W') : s.post enc PP fn false true false false W args (.bool true) W' := by
  have hW := hw
  obtain ⟨p, q, hA, hV, rfl, _, _⟩ := hw
  rw [hv] at hV
  obtain ⟨rfl, rfl⟩ := trodVars_none hV
  have hlt : ∀ x ∈ p, x.block < W.heap.size := fun x hx => hW.lt x (List.mem_append_left _ hx)
  refine ⟨ds, [], _, [], p, [], hW, ?_, ?_, ?_, hb.frame _, fun h => by cases h⟩
  · rw [hs rfl, hr]
    exact trodAll_mk1 (shut_bool u_bool true)
  · rw [hs rfl]
    exact trodAll_stays laidOutP hb hts hlt hA
  · rw [hs rfl, hv]
    rfl

/-- The numbers of a datum. -/
def flatV : Nat → DataW Unit → List Value
  | 0, _ => []
  | _ + 1, .lit (.int i n) => [.int i n]
  | _ + 1, .lit (.string s) => [.string ⟨s.toArray⟩]
  | _ + 1, .lit (.bool b) => [.bool b]
  | k + 1, .agg ps => ps.flatMap (flatV k)
  | _ + 1, _ => []
def layG (g : Nat) (cs : List Value) (h : Array Obj) : Array Obj := h.modify g fun
  | .cells _ t fz => .cells cs.toArray t fz
  | o => o
abbrev errS0 : ByteArray := { data := #[118, 97, 108, 117, 101, 32, 111, 117, 116, 32, 111, 102, 32, 114, 97, 110, 103, 101] }
abbrev errS1 : ByteArray := { data := #[105, 110, 118, 97, 108, 105, 100, 32, 115, 121, 110, 116, 97, 120] }
noncomputable def low : Nat := (World.holding PP default ⟨#[], #[], []⟩).heap.size
/-- A world in which the listed variables hold what is listed. -/
noncomputable def laidWorld (os : Os) : World :=
  let w0 := World.holding PP os ⟨#[.cells #[.string errS0] 138, .cells #[.string errS1] 138], #[], []⟩
  { w0 with heap := layG 4 (flatV 4 Rows.laid_unicode_utf8_first) (layG 0 (flatV 4 Rows.laid_feedvault_jsonstring_letters) (layG 2 [.iface 136 (.pointer (some ⟨low + 1, 0, none⟩))] (layG 3 [.iface 136 (.pointer (some ⟨low + 0, 0, none⟩))] (layG 5 (flatV 4 Rows.laid_unicode_utf8_acceptRanges) (layG 6 (flatV 4 Rows.laid_internal_strconv_uint64pow10) (layG 8 (flatV 4 Rows.laid_math_bits_deBruijn64tab) (layG 7 (flatV 4 Rows.laid_math_bits_deBruijn32tab) (w0.heap)))))))) }
theorem laidWorld_met (os : Os) (args : Array Value) : laidMet PP Rows.jsonvalueMatchesReferenceRow.laid ((laidWorld os).forCall (fun _ _ => 0) ⟨#[], args, []⟩).memory :=
  laidMet_of_run' 8 (by kernel_rfl) (by kernel_rfl)
end Go.Proofs.YtgdcdkgmeomhpaaGreatDoor

namespace Go.Proofs.YtgdcdkgmeomhpaaGreatDoor
open Go Go.Vs Go.RowKit Go.ChangeShapes
set_option maxRecDepth 100000

noncomputable def fieldsOf (t : TypeId) : Array Field := match PP.underlying t with
  | some (.struct fs) => fs
  | _ => #[]
theorem u_value : PP.underlying 26 = some (.struct (fieldsOf 26)) := by kernel_rfl
theorem f_value : (fieldsOf 26).toList.map (fun f => (f.type, f.offset)) = [(3, 0), (4, 1), (2, 2), (9, 3), (23, 4), (24, 5), (3, 6)] := by kernel_rfl
theorem u_member : PP.underlying 41 = some (.struct (fieldsOf 41)) := by kernel_rfl
theorem f_member : (fieldsOf 41).toList.map (fun f => (f.type, f.offset)) = [(9, 0), (26, 1), (3, 8)] := by kernel_rfl
theorem u_int : PP.underlying 3 = some (.int .i64) := by kernel_rfl
theorem u_i64 : PP.underlying 2 = some (.int .i64) := by kernel_rfl
theorem u_vals : PP.underlying 23 = some (.slice 26) := by kernel_rfl
theorem u_mems : PP.underlying 24 = some (.slice 41) := by kernel_rfl
theorem c_int : PP.cellsOf 3 = 1 := by kernel_rfl
theorem c_i64 : PP.cellsOf 2 = 1 := by kernel_rfl
theorem c_bool : PP.cellsOf 4 = 1 := by kernel_rfl
theorem c_vals : PP.cellsOf 23 = 1 := by kernel_rfl
theorem c_mems : PP.cellsOf 24 = 1 := by kernel_rfl
theorem c_value : PP.cellsOf 26 = 7 := by kernel_rfl
theorem c_member : PP.cellsOf 41 = 9 := by kernel_rfl

section
variable {H : Type} {enc : TypeId × Value → H} {w : World} {G : List (Nat × List V)} {sp : Nat → Bool} {held : Bool}

theorem field_read {fuel : Nat} {t : TypeId} {fs : Array Field} {cs : List Value} {x : DataW H × List MemPlace} {L : List (TypeId × Nat)} (ht : PP.underlying t = some (.struct fs)) (hL : fs.toList.map (fun f => (f.type, f.offset)) = L)
    (h : DataW.trod enc PP w 0 sp held fuel t cs = some x) : ∃ n, fuel = n + 1 ∧ cs.length = PP.cellsOf t ∧ ∀ (i : Nat) (ty : TypeId) (off : Nat), L[i]? = some (ty, off) → ∃ y, DataW.trod enc PP w 0 sp held n ty ((cs.drop off).take (PP.cellsOf ty)) = some y := by
  obtain ⟨xs, n, rfl, _, hl, hxl, hall⟩ := DataW.trod_struct ht h
  refine ⟨n, rfl, hl, fun i ty off hi => ?_⟩
  rw [← hL, List.getElem?_map, Option.map_eq_some_iff] at hi
  obtain ⟨f, hf, he⟩ := hi
  have hf' : fs[i]? = some f := by simpa using hf
  have hlt := (Array.getElem?_eq_some_iff.1 hf').1
  have := hall i f hf'
  simp only [Prod.mk.injEq] at he
  rw [he.1, he.2] at this
  exact ⟨_, this.trans (List.getElem?_eq_getElem (by omega))⟩

theorem rv_int1 {n : Nat} {t : TypeId} {c : Value} {x : DataW H × List MemPlace} {k : IntKind} (ht : PP.underlying t = some (.int k)) (h : DataW.trod enc PP w 0 sp held n t [c] = some x) : ∃ z, c = .int k z := by
  obtain ⟨z, hz, _⟩ := DataW.trod_int ht h
  exact ⟨z, by simpa using hz⟩
theorem rv_bool1 {n : Nat} {c : Value} {x : DataW H × List MemPlace} (h : DataW.trod enc PP w 0 sp held n 4 [c] = some x) : ∃ b, c = .bool b := by
  obtain ⟨z, hz, _⟩ := DataW.trod_bool u_bool h
  exact ⟨z, by simpa using hz⟩
theorem rv_str1 {n : Nat} {c : Value} {x : DataW H × List MemPlace} (h : DataW.trod enc PP w 0 sp held n 9 [c] = some x) : ∃ s : ByteArray, c = .string s ∧ s.size ≤ maxLen := by
  obtain ⟨z, hz, _, hl⟩ := DataW.trod_string u_str h
  exact ⟨z, by simpa using hz, hl⟩

def IsV (v : V) : Prop := ∃ j : JV, v = .agg j.cells
def IsM (v : V) : Prop := ∃ m : JM, v = .agg m.cells
theorem list_vals : ∀ {xs : List V}, (∀ v ∈ xs, IsV v) → ∃ is, xs = encL is
  | [], _ => ⟨[], rfl⟩
  | v :: r, h => by
    obtain ⟨j, rfl⟩ := h v (by simp)
    obtain ⟨is, rfl⟩ := list_vals (xs := r) fun v hv => h v (by simp [hv])
    exact ⟨j :: is, rfl⟩
theorem list_mems : ∀ {xs : List V}, (∀ v ∈ xs, IsM v) → ∃ ms, xs = encMs ms
  | [], _ => ⟨[], rfl⟩
  | v :: r, h => by
    obtain ⟨m, rfl⟩ := h v (by simp)
    obtain ⟨ms, rfl⟩ := list_mems (xs := r) fun v hv => h v (by simp [hv])
    exact ⟨m :: ms, rfl⟩
theorem rv_slcE {nn : Bool} {xs : List V} {u : Value} (h : RV (mem0 G w) w (.slc nn xs .no) u) (hn : nn = false → xs = []) : RV (mem0 G w) w (slcE nn xs) u := by
  have : slcE nn xs = .slc nn xs .no := by
    cases nn with
    | true => rfl
    | false => rw [hn rfl]; rfl
  rw [this]; exact h
theorem RVs.cons {a : V} {b : Value} {cs : List V} {us : List Value} {μ : Mem} (h : RV μ w a b) (hs : RVs μ w cs us) : RVs μ w (a :: cs) (b :: us) :=
  ⟨by simp [hs.1], fun i hi => by
    match i with
    | 0 => exact h
    | i + 1 => exact hs.2 i (by simpa using hi)⟩
theorem RVs.nil {μ : Mem} : RVs μ w [] [] := ⟨rfl, fun i hi => by cases hi⟩
theorem RVs.app {cs cs' : List V} {us us' : List Value} {μ : Mem} (h : RVs μ w cs us) (h' : RVs μ w cs' us') : RVs μ w (cs ++ cs') (us ++ us') := by
  induction cs generalizing us with
  | nil =>
    have : us = [] := by have := h.1; simpa using this.symm
    subst this
    exact h'
  | cons c r ih =>
    match us, h with
    | [], h => cases h.1
    | u :: us, h =>
      have hr : RVs μ w r us := ⟨by have := h.1; simpa using this, fun i hi => by have := h.2 (i + 1) (by simpa using hi); simpa using this⟩
      have h0 : RV μ w c u := by have := h.2 0 (by simp); simpa using this
      exact RVs.cons h0 (ih hr)

theorem json_elems : ∀ (n : Nat), ElemOk enc PP w G sp held n 26 7 IsV ∧ ElemOk enc PP w G sp held n 41 9 IsM := by
  intro n
  induction n using Nat.strongRecOn with
  | _ n ih =>
    constructor
    · intro cs x hl h
      obtain ⟨m, rfl, _, hf⟩ := field_read u_value f_value h
      match cs, hl with
      | [c0, c1, c2, c3, c4, c5, c6], _ =>
        obtain ⟨_, h0⟩ := hf 0 _ _ rfl
        obtain ⟨_, h1⟩ := hf 1 _ _ rfl
        obtain ⟨_, h2⟩ := hf 2 _ _ rfl
        obtain ⟨_, h3⟩ := hf 3 _ _ rfl
        obtain ⟨_, h4⟩ := hf 4 _ _ rfl
        obtain ⟨_, h5⟩ := hf 5 _ _ rfl
        obtain ⟨_, h6⟩ := hf 6 _ _ rfl
        rw [c_int] at h0 h6
        rw [c_bool] at h1
        rw [c_i64] at h2
        rw [c_str] at h3
        rw [c_vals] at h4
        rw [c_mems] at h5
        obtain ⟨k, rfl⟩ := rv_int1 u_int h0
        obtain ⟨b, rfl⟩ := rv_bool1 h1
        obtain ⟨z, rfl⟩ := rv_int1 u_i64 h2
        obtain ⟨s, rfl, _⟩ := rv_str1 h3
        obtain ⟨a, rfl⟩ := rv_int1 u_int h6
        obtain ⟨ni, xs, u4, e4, hR4, hr4, ho4, hn4, _⟩ := rv_slice (G := G) u_vals c_value (by omega) (fun k hk => (ih k (by omega)).1) h4
        obtain ⟨nm, ys, u5, e5, hR5, hr5, ho5, hn5, _⟩ := rv_slice (G := G) u_mems c_member (by omega) (fun k hk => (ih k (by omega)).2) h5
        obtain ⟨is, rfl⟩ := list_vals hR4
        obtain ⟨ms, rfl⟩ := list_mems hR5
        obtain rfl : c4 = u4 := by simpa using e4
        obtain rfl : c5 = u5 := by simpa using e5
        refine ⟨.agg (JV.mk k b z s.data.toList ni is nm ms a).cells, ⟨_, rfl⟩, JV.len _, ?_, ?_⟩
        · exact RVs.cons (.int _ _) (RVs.cons (.bool _) (RVs.cons (.int _ _) (RVs.cons (.str _) (RVs.cons (rv_slcE hr4 hn4) (RVs.cons (rv_slcE hr5 hn5) (RVs.cons (.int _ _) RVs.nil))))))
        · intro u hu
          simp only [List.mem_cons, List.not_mem_nil, or_false] at hu
          rcases hu with rfl | rfl | rfl | rfl | rfl | rfl | rfl <;> first | rfl | assumption
    · intro cs x hl h
      obtain ⟨m, rfl, _, hf⟩ := field_read u_member f_member h
      obtain ⟨_, h0⟩ := hf 0 _ _ rfl
      obtain ⟨_, h1⟩ := hf 1 _ _ rfl
      obtain ⟨_, h2⟩ := hf 2 _ _ rfl
      rw [c_str] at h0
      rw [c_value] at h1
      rw [c_int] at h2
      obtain ⟨v, ⟨j, rfl⟩, _, hrv, hone⟩ := (ih m (by omega)).1 ((cs.drop 1).take 7) _ (by simp; omega) h1
      match cs, hl with
      | [c0, c1, c2, c3, c4, c5, c6, c7, c8], _ =>
        obtain ⟨s, rfl, _⟩ := rv_str1 h0
        obtain ⟨a, rfl⟩ := rv_int1 u_int h2
        refine ⟨.agg (JM.mk s.data.toList j a).cells, ⟨_, rfl⟩, JM.len _, ?_, ?_⟩
        · exact RVs.cons (.str _) (RVs.app (us := [c1, c2, c3, c4, c5, c6, c7]) hrv (RVs.cons (.int _ _) RVs.nil))
        · intro u hu
          simp only [List.mem_cons, List.not_mem_nil, or_false] at hu
          simp only [List.drop_succ_cons, List.drop_zero, List.take_succ_cons, List.take_zero, List.mem_cons, List.not_mem_nil, or_false] at hone
          rcases hu with rfl | hu | hu | hu | hu | hu | hu | hu | rfl
          · rfl
          all_goals first | rfl | (exact hone u (by simp [hu]))

/-- A value handed to the law. -/
theorem rv_value {b0 : Nat} {v : Value} {d : DataW H} {ps : List MemPlace} (hval : Value.okWide PP w .any b0 26 v) (hd : DataW.Trod enc PP w 0 sp held 26 v d ps) : ∃ j : JV, RV (mem0 G w) w j.enc v := by
  obtain ⟨fuel, hf⟩ := hd
  simp only [Value.okWide, u_value] at hval
  obtain ⟨us, rfl, hsz, _⟩ := hval
  rw [c_value] at hsz
  obtain ⟨_, ⟨j, rfl⟩, _, hr, hone⟩ := (json_elems (enc := enc) (w := w) (G := G) (sp := sp) (held := held) fuel).1 us.toList _ (by simpa using hsz) hf
  have := RV.agg (μ := mem0 G w) (w := w) j.cells us.toList hr.1 hone hr.2
  exact ⟨j, by show RV (mem0 G w) w (V.agg j.cells) _; simpa using this⟩
end
end Go.Proofs.YtgdcdkgmeomhpaaGreatDoor

namespace Go.Proofs.YtgdcdkgmeomhpaaGreatDoor
open Go Go.Vs Go.RowKit Go.ChangeShapes
set_option maxRecDepth 100000

theorem jsonvalueSpaces_lifted (os : Os) (started : os.Started) (H : Type) (enc : TypeId × Value → H) :
    ReturnsInHanded {} Go.Proofs.Tryz.checked os 4 .any (fun w args => (Rows.jsonvalueSpacesSpec.pre enc PP Go.Proofs.Tryz.f4 [] false w args ∧ laidMet PP Rows.jsonvalueSpacesRow.laid w) ∧ sizedMet enc PP Go.Proofs.Tryz.f4 (OpenSpec.ofChange Rows.jsonvalueSpacesSpec) false w args)
      (Rows.jsonvalueSpacesSpec.post enc PP Go.Proofs.Tryz.f4 false true false false) := by
  refine returnsInHanded_of_change_and (C := Go.Proofs.Tryz.checked) (X := fun w _ => laidMet PP Rows.jsonvalueSpacesRow.laid w) (fun _ _ _ hh h => h.of_heap hh) own started (by kernel_rfl) Go.Proofs.Tryz.func4
    (ChangeSpec.witness_at (enc := enc) (C := Go.Proofs.Tryz.checked) (os := os) (X := fun w _ => laidMet PP Rows.jsonvalueSpacesRow.laid w) false (laidWorld os) #[.string ⟨#[]⟩, .int .u8 0] 8 rfl (by kernel_rfl) (by kernel_rfl) (by kernel_rfl) (by kernel_rfl) (by kernel_rfl) (laidWorld_met os _)) ?_
  intro W base args ds gs before hval0 hW _ _ hL _
  have hval : ∀ (j : Nat) t v, Go.Proofs.Tryz.f4.params[j]? = some t → args[j]? = some v → Value.okWide PP W .any base t v := hval0
  have hW' := hW
  obtain ⟨p, q, hA0, hV, rfl, hfz, hnd⟩ := hW
  have hA : DataW.TrodAll enc PP W 0 (fun _ => true) true Go.Proofs.Tryz.f4.params.toList args.toList ds p := hA0
  rw [Go.Proofs.Tryz.params4] at hA hval
  obtain ⟨v0, v1, d0, d1, p0, p1, rfl, rfl, rfl, h0, h1⟩ := trodAll_two hA
  obtain ⟨x0, rfl, rfl, rfl, b0⟩ := Go.ChangeMaps.open_string u_str (hval 0 9 v0 rfl rfl) h0
  obtain ⟨x1, rfl, rfl, rfl, b1⟩ := open_int u_u8 (hval 1 5 v1 rfl rfl) h1
  have hG := gok_of_laid hL (by simp [Rows.jsonvalueSpacesRow]) (by simp [Rows.jsonvalueSpacesRow]) (by simp [Rows.jsonvalueSpacesRow]) (by simp [Rows.jsonvalueSpacesRow]) (by simp [Rows.jsonvalueSpacesRow])
  have hC := law_calls (X := Xc) (W := W) (args := [.str x0.data.toList, .int .u8 x1]) (us := [.string x0, .int .u8 x1]) (f := 4) (law11Spaces_C (by have := b1; simpa [Lit.wf, IntKind.min, IntKind.max, IntKind.signed, IntKind.bits] using this) (by have e : maxLen ≤ 9223372036854775807 := (by decide); have := b0; simp; omega) rfl) hG ⟨rfl, fun i hi => by
    match i, hi with
    | 0, _ => exact .str x0
    | 1, _ => exact .int _ _⟩
  refine hC.mono fun e W' ⟨he, hb⟩ => ⟨_, he, law_post rfl (by kernel_rfl) (by kernel_rfl) (fun hg => by subst hg; rfl) hW' hb⟩

theorem jsonvalueSpaces_row : Rows.JsonvalueSpacesSaid :=
  OpenClaim.holds_of_wide 4 Go.Proofs.Tryz.f4 rfl rfl rfl rfl rfl rfl rfl ⟨rfl, rfl, rfl, rfl, rfl⟩ rfl rfl rfl rfl rfl (by kernel_rfl) Go.Proofs.Tryz.func4 (by kernel_rfl)
    (of_decide_eq_true (by kernel_rfl)) (by unfold Func.isWrapper; rw [if_neg (of_decide_eq_false (by kernel_rfl))]; exact ⟨rfl, rfl⟩)
    (fun os started H enc _ => jsonvalueSpaces_lifted os started H enc)

theorem jsonvalueSpaces_card : Rows.JsonvalueSpacesCardSaid :=
  Claim7.holds_tied_plain_at .later [] [.data, .data, .data, .data, .sentinel, .sentinel, .data, .pinned] true (true, "c3f5a6a9bd9ab29e60a9a81d36d2f08af5b4463ab56fa5ea78a7045cfeadc5d0") true
    jsonvalueSpaces_row (fun _ h => by cases h) (by kernel_rfl) (fun _ h => by cases h) jsonvalueSpaces_row_tie rfl ⟨rfl, rfl⟩ (by kernel_rfl) rfl
    (fun f fn hf hfn => by
      obtain rfl : f = 4 := Option.some.inj ((show PP.funcNamed "feedvault/feedvaultlaw11.JsonvalueSpaces" = some 4 by kernel_rfl).symm.trans hf) |>.symm
      obtain rfl : fn = Go.Proofs.Tryz.f4 := (Option.some.inj (Go.Proofs.Tryz.func4.symm.trans hfn)).symm
      refine ⟨by kernel_rfl, fun j t ht => ?_⟩
      rw [Go.Proofs.Tryz.params4] at ht
      match j, ht with
      | 0, ht => simp at ht; subst ht; exact (show PP.wantsStandIn 9 = false by kernel_rfl)
      | 1, ht => simp at ht; subst ht; exact (show PP.wantsStandIn 5 = false by kernel_rfl)
      | j + 2, ht => simp at ht)
    (by kernel_rfl)
#print axioms jsonvalueSpaces_card
end Go.Proofs.YtgdcdkgmeomhpaaGreatDoor
