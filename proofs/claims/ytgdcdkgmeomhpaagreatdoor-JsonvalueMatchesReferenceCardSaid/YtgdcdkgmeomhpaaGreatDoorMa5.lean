/- Parts of the proof, joined: JSON values: the reference's Equal. The functions of the program, read (printed by wip/tools/seat.py): each is what the reading yields, by the kernel. The reference's layer 1: white space, a rune's bytes; a text at an offset. The reference's layer 1: decoding a rune by encoding. The reference's layer 10: JSON strings. The reference's layer 10: JSON strings are parsed. JSON values: the chapter's examples hold. JSON values: numbers, in plain Lean: the parser's reading of a number is the reference's. JSON values: the reference's Number. The reference's layer 11: small functions of the parser. -/
import Derived.Test.YtgdcdkgmeomhpaaGreatDoorProg
import Derived.KernelRfl
import Derived.Lib.ParseIntBTie
import Derived.Test.YtgdcdkgmeomhpaaGreatDoorMa1
import Derived.Test.YtgdcdkgmeomhpaaGreatDoorMa2
import Derived.Test.YtgdcdkgmeomhpaaGreatDoorMa3
import Derived.Test.YtgdcdkgmeomhpaaGreatDoorMa4
set_option linter.unusedVariables false
set_option linter.unusedSimpArgs false

namespace Go.Proofs.YtgdcdkgmeomhpaaGreatDoor
open Go Go.Vs
set_option maxRecDepth 20000
attribute [local irreducible] chooseK

theorem drop7a (v : JV) (r : List V) : List.drop 7 (v.cells ++ r) = r := by rw [List.drop_append_of_le_length (by simp [JV.len]), drop7 (JV.len v)]; rfl
theorem eqJ_head (o : Bool) (k b n s ni is nm ms a k' b' n' s' ni' is' nm' ms' a') : eqJ o (.mk k b n s ni is nm ms a) (.mk k' b' n' s' ni' is' nm' ms' a') =
    ((k == k' && b == b' && n == n' && s == s' && (!o || a == a')) && (eqL o is is' && eqM o ms ms')) := by rw [eqJ]

theorem refEqual_C (o : Bool) : ∀ (N : Nat) (v w : JV), v.wt ≤ N → v.wt ≤ big → ∀ (σ : St) (Q : Out → St → Prop), Q (.ret (.bool (eqJ o v w))) σ → C Xc 8 [v.enc, w.enc, .bool o] σ Q := by
  intro N
  induction N with
  | zero => intro v w hv; have := v.wt_pos; omega
  | succ N ih =>
    intro v w hv hb σ Q h
    obtain ⟨k, b, n, s, ni, is, nm, ms, a⟩ := v
    obtain ⟨k', b', n', s', ni', is', nm', ms', a'⟩ := w
    unfold big at hb
    rw [JV.wt] at hv hb
    have hwL := wtL_len is
    have hwM := wtM_len ms
    rw [eqJ_head] at h
    have no : ((k == k' && b == b' && n == n' && s == s' && (!o || a == a')) && (eqL o is is' && eqM o ms ms')) = false → Q (.ret (.bool false)) σ := fun e => by rw [e] at h; exact h
    refine bodyW cf_refEqual (Eq.refl true) fun hw => ?_
    simp -implicitDefEqProofs only [vf_refEqual, JV.enc, JV.cells, slcE, List.append_assoc, getL, getL0, setL, setL0, List.set_cons_zero, List.set_cons_succ, encL_len, encMs_len, take7a, take8a, drop7a, JV.len, take7, take9, wset, tailW, tailEnd, isLenV, isOneV, vop, vbin, vbinI, vun, ↓reduceIte, Nat.reduceEqDiff, Nat.reduceAdd, vcells, vcut, cutSK, cutVK, cutNK, fillV, spl, Nat.reduceLeDiff, V.isNil, bne_self_eq_false]
    refine chooseK_split (fun h1 => ?_) (fun h1 => ?_) <;> simp -implicitDefEqProofs only [h1, List.append_assoc, getL, getL0, setL, setL0, List.set_cons_zero, List.set_cons_succ, encL_len, encMs_len, take7a, take8a, drop7a, JV.len, take7, take9, wset, tailW, tailEnd, isLenV, isOneV, vop, vbin, vbinI, vun, ↓reduceIte, Nat.reduceEqDiff, Nat.reduceAdd, vcells, vcut, cutSK, cutVK, cutNK, fillV, spl, Nat.reduceLeDiff, V.isNil, bne_self_eq_false]
    · exact exitNew hw (by rfl) (by rfl) (no (by simp_all))
    refine chooseK_split (fun h2 => ?_) (fun h2 => ?_) <;> simp -implicitDefEqProofs only [h2, List.append_assoc, getL, getL0, setL, setL0, List.set_cons_zero, List.set_cons_succ, encL_len, encMs_len, take7a, take8a, drop7a, JV.len, take7, take9, wset, tailW, tailEnd, isLenV, isOneV, vop, vbin, vbinI, vun, ↓reduceIte, Nat.reduceEqDiff, Nat.reduceAdd, vcells, vcut, cutSK, cutVK, cutNK, fillV, spl, Nat.reduceLeDiff, V.isNil, bne_self_eq_false]
    rotate_left
    · exact exitNew hw (by rfl) (by rfl) (no (by simp_all))
    refine chooseK_split (fun h3 => ?_) (fun h3 => ?_) <;> simp -implicitDefEqProofs only [h3, List.append_assoc, getL, getL0, setL, setL0, List.set_cons_zero, List.set_cons_succ, encL_len, encMs_len, take7a, take8a, drop7a, JV.len, take7, take9, wset, tailW, tailEnd, isLenV, isOneV, vop, vbin, vbinI, vun, ↓reduceIte, Nat.reduceEqDiff, Nat.reduceAdd, vcells, vcut, cutSK, cutVK, cutNK, fillV, spl, Nat.reduceLeDiff, V.isNil, bne_self_eq_false]
    · exact exitNew hw (by rfl) (by rfl) (no (by simp_all))
    refine chooseK_split (fun h4 => ?_) (fun h4 => ?_) <;> simp -implicitDefEqProofs only [h4, List.append_assoc, getL, getL0, setL, setL0, List.set_cons_zero, List.set_cons_succ, encL_len, encMs_len, take7a, take8a, drop7a, JV.len, take7, take9, wset, tailW, tailEnd, isLenV, isOneV, vop, vbin, vbinI, vun, ↓reduceIte, Nat.reduceEqDiff, Nat.reduceAdd, vcells, vcut, cutSK, cutVK, cutNK, fillV, spl, Nat.reduceLeDiff, V.isNil, bne_self_eq_false]
    rotate_left
    · exact exitNew hw (by rfl) (by rfl) (no (by simp_all))
    have h1' : k = k' := by simpa using h1
    have h3' : n = n' := by simpa using h3
    cases o with
    | false =>
      simp -implicitDefEqProofs only [List.append_assoc, getL, getL0, setL, setL0, List.set_cons_zero, List.set_cons_succ, encL_len, encMs_len, take7a, take8a, drop7a, JV.len, take7, take9, wset, tailW, tailEnd, isLenV, isOneV, vop, vbin, vbinI, vun, ↓reduceIte, Nat.reduceEqDiff, Nat.reduceAdd, vcells, vcut, cutSK, cutVK, cutNK, fillV, spl, Nat.reduceLeDiff, V.isNil, bne_self_eq_false]
      refine chooseK_split (fun h6 => ?_) (fun h6 => ?_) <;> simp -implicitDefEqProofs only [h6, List.append_assoc, getL, getL0, setL, setL0, List.set_cons_zero, List.set_cons_succ, encL_len, encMs_len, take7a, take8a, drop7a, JV.len, take7, take9, wset, tailW, tailEnd, isLenV, isOneV, vop, vbin, vbinI, vun, ↓reduceIte, Nat.reduceEqDiff, Nat.reduceAdd, vcells, vcut, cutSK, cutVK, cutNK, fillV, spl, Nat.reduceLeDiff, V.isNil, bne_self_eq_false]
      · rw [eqL_len (by simp at h6; omega)] at no
        exact exitNew hw (by rfl) (by rfl) (no (by simp))
      refine chooseK_split (fun h7 => ?_) (fun h7 => ?_) <;> simp -implicitDefEqProofs only [h7, List.append_assoc, getL, getL0, setL, setL0, List.set_cons_zero, List.set_cons_succ, encL_len, encMs_len, take7a, take8a, drop7a, JV.len, take7, take9, wset, tailW, tailEnd, isLenV, isOneV, vop, vbin, vbinI, vun, ↓reduceIte, Nat.reduceEqDiff, Nat.reduceAdd, vcells, vcut, cutSK, cutVK, cutNK, fillV, spl, Nat.reduceLeDiff, V.isNil, bne_self_eq_false]
      · rw [eqM_len (by simp at h7; omega)] at no
        exact exitNew hw (by rfl) (by rfl) (no (by simp))
      have hli : is.length = is'.length := by simp at h6; omega
      have hlm : ms.length = ms'.length := by simp at h7; omega
      refine LoopP.intro (fun n0 fr σ' => ∃ (j : Nat), j ≤ is.length ∧ n0 = is.length - j ∧ eqL false is is' = eqL false (is.drop j) (is'.drop j) ∧ fr 2 = .bool false ∧ fr 3 = .ref (some (σ.objs.length, 0)) ∧ fr 4 = .ref (some (σ.objs.length + 1, 0)) ∧ fr 7 = .int .i64 (j : Int) ∧
          σ' = ⟨σ.objs ++ [[.int .i64 k, .bool b, .int .i64 n, .str s, slcE ni (encL is), slcE nm (encMs ms), .int .i64 a], [.int .i64 k', .bool b', .int .i64 n', .str s', slcE ni' (encL is'), slcE nm' (encMs ms'), .int .i64 a']], σ.maps, σ.toks, σ.tys ++ [26, 26], σ.tts⟩) is.length ?_ ?_
      · exact ⟨0, by omega, by omega, rfl, rfl, rfl, rfl, rfl, rfl⟩
      rintro n0 fr σ' ⟨j, hj, rfl, he, f2, f3, f4, f7, rfl⟩
      simp -implicitDefEqProofs only [f2, f3, f4, f7, slcE, List.append_assoc, getL, getL0, setL, setL0, List.set_cons_zero, List.set_cons_succ, encL_len, encMs_len, take7a, take8a, drop7a, JV.len, take7, take9, wset, tailW, tailEnd, isLenV, isOneV, vop, vbin, vbinI, vun, ↓reduceIte, Nat.reduceEqDiff, Nat.reduceAdd, vcells, vcut, cutSK, cutVK, cutNK, fillV, spl, Nat.reduceLeDiff, V.isNil, bne_self_eq_false]
      refine chooseK_split (fun g1 => ?_) (fun g1 => ?_) <;> simp -implicitDefEqProofs only [g1, f2, f3, f4, f7, List.append_assoc, getL, getL0, setL, setL0, List.set_cons_zero, List.set_cons_succ, encL_len, encMs_len, take7a, take8a, drop7a, JV.len, take7, take9, wset, tailW, tailEnd, isLenV, isOneV, vop, vbin, vbinI, vun, ↓reduceIte, Nat.reduceEqDiff, Nat.reduceAdd, vcells, vcut, cutSK, cutVK, cutNK, fillV, spl, Nat.reduceLeDiff, V.isNil, bne_self_eq_false]
      · have hjl : j < is.length := by simp at g1; omega
        have hm := getD_mem (d := jnull) hjl
        have hwt := wtL_mem hm
        rw [drop_getD jnull hjl, drop_getD jnull (show j < is'.length by omega), eqL] at he
        refine ⟨by omega, encL_cells is, ?_⟩
        rw [encL_get is j hjl]
        generalize hv0 : is.getD j jnull = v0 at *
        simp -implicitDefEqProofs only [JV.enc, f2, f3, f4, f7, List.append_assoc, getL, getL0, setL, setL0, List.set_cons_zero, List.set_cons_succ, encL_len, encMs_len, take7a, take8a, drop7a, JV.len, take7, take9, wset, tailW, tailEnd, isLenV, isOneV, vop, vbin, vbinI, vun, ↓reduceIte, Nat.reduceEqDiff, Nat.reduceAdd, vcells, vcut, cutSK, cutVK, cutNK, fillV, spl, Nat.reduceLeDiff, V.isNil, bne_self_eq_false]
        refine ⟨by omega, encL_cells is', ?_⟩
        rw [encL_get is' j (by omega)]
        generalize hw0 : is'.getD j jnull = w0 at *
        simp -implicitDefEqProofs only [JV.enc, f2, f3, f4, f7, List.append_assoc, getL, getL0, setL, setL0, List.set_cons_zero, List.set_cons_succ, encL_len, encMs_len, take7a, take8a, drop7a, JV.len, take7, take9, wset, tailW, tailEnd, isLenV, isOneV, vop, vbin, vbinI, vun, ↓reduceIte, Nat.reduceEqDiff, Nat.reduceAdd, vcells, vcut, cutSK, cutVK, cutNK, fillV, spl, Nat.reduceLeDiff, V.isNil, bne_self_eq_false]
        refine ih v0 w0 (by omega) (by unfold big; omega) _ _ ?_
        simp -implicitDefEqProofs only [f2, f3, f4, f7, List.append_assoc, getL, getL0, setL, setL0, List.set_cons_zero, List.set_cons_succ, encL_len, encMs_len, take7a, take8a, drop7a, JV.len, take7, take9, wset, tailW, tailEnd, isLenV, isOneV, vop, vbin, vbinI, vun, ↓reduceIte, Nat.reduceEqDiff, Nat.reduceAdd, vcells, vcut, cutSK, cutVK, cutNK, fillV, spl, Nat.reduceLeDiff, V.isNil, bne_self_eq_false]
        refine chooseK_split (fun g2 => ?_) (fun g2 => ?_) <;> simp -implicitDefEqProofs only [g2, f2, f3, f4, f7, List.append_assoc, getL, getL0, setL, setL0, List.set_cons_zero, List.set_cons_succ, encL_len, encMs_len, take7a, take8a, drop7a, JV.len, take7, take9, wset, tailW, tailEnd, isLenV, isOneV, vop, vbin, vbinI, vun, ↓reduceIte, Nat.reduceEqDiff, Nat.reduceAdd, vcells, vcut, cutSK, cutVK, cutNK, fillV, spl, Nat.reduceLeDiff, V.isNil, bne_self_eq_false]
        · rw [wrap64 (by omega)]
          rw [g2, Bool.true_and] at he
          exact ⟨is.length - (j + 1), by omega, j + 1, by omega, rfl, he, f2, f3, f4, rfl, rfl⟩
        · rw [g2, Bool.false_and] at he
          exact exitNew hw (by rfl) (by rfl) (no (by simp [he]))
      · have hj2 : j = is.length := by simp at g1; omega
        rw [List.drop_of_length_le (by omega), List.drop_of_length_le (by omega), eqL] at he
        refine LoopP.intro (fun n0 fr σ' => ∃ (j : Nat) (X : List (List V)) (Y : List TypeId), j ≤ ms.length ∧ n0 = ms.length - j ∧ eqM false ms ms' = eqM false (ms.drop j) (ms'.drop j) ∧ fr 2 = .bool false ∧ fr 3 = .ref (some (σ.objs.length, 0)) ∧ fr 4 = .ref (some (σ.objs.length + 1, 0)) ∧ fr 8 = .int .i64 (j : Int) ∧
            σ' = ⟨σ.objs ++ ([.int .i64 k, .bool b, .int .i64 n, .str s, slcE ni (encL is), slcE nm (encMs ms), .int .i64 a] :: [.int .i64 k', .bool b', .int .i64 n', .str s', slcE ni' (encL is'), slcE nm' (encMs ms'), .int .i64 a'] :: X), σ.maps, σ.toks, σ.tys ++ Y, σ.tts⟩) ms.length ?_ ?_
        · exact ⟨0, [], _, by omega, by omega, rfl, f2, f3, f4, rfl, rfl⟩
        clear f2 f3 f4 f7
        rintro n0 fr σ' ⟨j, X, Y, hj, rfl, he', f2, f3, f4, f7, rfl⟩
        simp -implicitDefEqProofs only [f2, f3, f4, f7, slcE, List.append_assoc, getL, getL0, setL, setL0, List.set_cons_zero, List.set_cons_succ, encL_len, encMs_len, take7a, take8a, drop7a, JV.len, take7, take9, wset, tailW, tailEnd, isLenV, isOneV, vop, vbin, vbinI, vun, ↓reduceIte, Nat.reduceEqDiff, Nat.reduceAdd, vcells, vcut, cutSK, cutVK, cutNK, fillV, spl, Nat.reduceLeDiff, V.isNil, bne_self_eq_false]
        refine chooseK_split (fun g3 => ?_) (fun g3 => ?_) <;> simp -implicitDefEqProofs only [g3, f2, f3, f4, f7, List.append_assoc, getL, getL0, setL, setL0, List.set_cons_zero, List.set_cons_succ, encL_len, encMs_len, take7a, take8a, drop7a, JV.len, take7, take9, wset, tailW, tailEnd, isLenV, isOneV, vop, vbin, vbinI, vun, ↓reduceIte, Nat.reduceEqDiff, Nat.reduceAdd, vcells, vcut, cutSK, cutVK, cutNK, fillV, spl, Nat.reduceLeDiff, V.isNil, bne_self_eq_false]
        · have hjl : j < ms.length := by simp at g3; omega
          have hm := getD_mem (d := jmnull) hjl
          have hwt := wtM_mem hm
          rw [drop_getD jmnull hjl, drop_getD jmnull (show j < ms'.length by omega), eqM] at he'
          refine ⟨by omega, encMs_cells ms, ?_⟩
          rw [encMs_get ms j hjl, show ms.getD j (.mk [] (jv 0 false 0 [] [] [] 0) 0) = ms.getD j jmnull from rfl]
          generalize hv0 : ms.getD j jmnull = v0 at *
          obtain ⟨x0, v0, a0⟩ := v0
          simp -implicitDefEqProofs only [JM.enc, JM.len, f2, f3, f4, f7, List.append_assoc, getL, getL0, setL, setL0, List.set_cons_zero, List.set_cons_succ, encL_len, encMs_len, take7a, take8a, drop7a, JV.len, take7, take9, wset, tailW, tailEnd, isLenV, isOneV, vop, vbin, vbinI, vun, ↓reduceIte, Nat.reduceEqDiff, Nat.reduceAdd, vcells, vcut, cutSK, cutVK, cutNK, fillV, spl, Nat.reduceLeDiff, V.isNil, bne_self_eq_false]
          refine ⟨by omega, encMs_cells ms', ?_⟩
          rw [encMs_get ms' j (by omega), show ms'.getD j (.mk [] (jv 0 false 0 [] [] [] 0) 0) = ms'.getD j jmnull from rfl]
          generalize hw0 : ms'.getD j jmnull = w0 at *
          obtain ⟨y0, w0, b0⟩ := w0
          rw [JM.wt] at hwt
          rw [eqMm] at he'
          simp -implicitDefEqProofs only [JM.enc, JM.len, f2, f3, f4, f7, List.append_assoc, getL, getL0, setL, setL0, List.set_cons_zero, List.set_cons_succ, encL_len, encMs_len, take7a, take8a, drop7a, JV.len, take7, take9, JM.cells, wset, tailW, tailEnd, isLenV, isOneV, vop, vbin, vbinI, vun, ↓reduceIte, Nat.reduceEqDiff, Nat.reduceAdd, vcells, vcut, cutSK, cutVK, cutNK, fillV, spl, Nat.reduceLeDiff, V.isNil, bne_self_eq_false]
          refine chooseK_split (fun g4 => ?_) (fun g4 => ?_) <;> simp -implicitDefEqProofs only [g4, f2, f3, f4, f7, List.append_assoc, getL, getL0, setL, setL0, List.set_cons_zero, List.set_cons_succ, encL_len, encMs_len, take7a, take8a, drop7a, JV.len, take7, take9, wset, tailW, tailEnd, isLenV, isOneV, vop, vbin, vbinI, vun, ↓reduceIte, Nat.reduceEqDiff, Nat.reduceAdd, vcells, vcut, cutSK, cutVK, cutNK, fillV, spl, Nat.reduceLeDiff, V.isNil, bne_self_eq_false]
          rotate_left
          · rw [g4, Bool.false_and, Bool.false_and, Bool.false_and] at he'
            exact exitNew hw (by rfl) (by rfl) (no (by simp [he']))
          skip
          refine ih v0 w0 (by omega) (by unfold big; omega) _ _ ?_
          simp -implicitDefEqProofs only [f2, f3, f4, f7, List.append_assoc, getL, getL0, setL, setL0, List.set_cons_zero, List.set_cons_succ, encL_len, encMs_len, take7a, take8a, drop7a, JV.len, take7, take9, wset, tailW, tailEnd, isLenV, isOneV, vop, vbin, vbinI, vun, ↓reduceIte, Nat.reduceEqDiff, Nat.reduceAdd, vcells, vcut, cutSK, cutVK, cutNK, fillV, spl, Nat.reduceLeDiff, V.isNil, bne_self_eq_false]
          refine chooseK_split (fun g6 => ?_) (fun g6 => ?_) <;> simp -implicitDefEqProofs only [g6, f2, f3, f4, f7, List.append_assoc, getL, getL0, setL, setL0, List.set_cons_zero, List.set_cons_succ, encL_len, encMs_len, take7a, take8a, drop7a, JV.len, take7, take9, wset, tailW, tailEnd, isLenV, isOneV, vop, vbin, vbinI, vun, ↓reduceIte, Nat.reduceEqDiff, Nat.reduceAdd, vcells, vcut, cutSK, cutVK, cutNK, fillV, spl, Nat.reduceLeDiff, V.isNil, bne_self_eq_false]
          · rw [wrap64 (by omega)]
            exact ⟨ms.length - (j + 1), by omega, j + 1, _, _, by omega, rfl, by simp [*], f2, f3, f4, rfl, rfl⟩
          · exact exitNew hw (by rfl) (by rfl) (no (by simp [he', g6]))
        · have hj3 : j = ms.length := by simp at g3; omega
          rw [List.drop_of_length_le (by omega), List.drop_of_length_le (by omega), eqM] at he'
          rw [he, he'] at h
          exact exitNew hw (by rfl) (by rfl) (by simpa [*] using h)
    | true =>
      simp -implicitDefEqProofs only [List.append_assoc, getL, getL0, setL, setL0, List.set_cons_zero, List.set_cons_succ, encL_len, encMs_len, take7a, take8a, drop7a, JV.len, take7, take9, wset, tailW, tailEnd, isLenV, isOneV, vop, vbin, vbinI, vun, ↓reduceIte, Nat.reduceEqDiff, Nat.reduceAdd, vcells, vcut, cutSK, cutVK, cutNK, fillV, spl, Nat.reduceLeDiff, V.isNil, bne_self_eq_false]
      refine chooseK_split (fun h5 => ?_) (fun h5 => ?_) <;> simp -implicitDefEqProofs only [h5, List.append_assoc, getL, getL0, setL, setL0, List.set_cons_zero, List.set_cons_succ, encL_len, encMs_len, take7a, take8a, drop7a, JV.len, take7, take9, wset, tailW, tailEnd, isLenV, isOneV, vop, vbin, vbinI, vun, ↓reduceIte, Nat.reduceEqDiff, Nat.reduceAdd, vcells, vcut, cutSK, cutVK, cutNK, fillV, spl, Nat.reduceLeDiff, V.isNil, bne_self_eq_false]
      · exact exitNew hw (by rfl) (by rfl) (no (by simp_all))
      have h5' : a = a' := by simpa using h5
      refine chooseK_split (fun h6 => ?_) (fun h6 => ?_) <;> simp -implicitDefEqProofs only [h6, List.append_assoc, getL, getL0, setL, setL0, List.set_cons_zero, List.set_cons_succ, encL_len, encMs_len, take7a, take8a, drop7a, JV.len, take7, take9, wset, tailW, tailEnd, isLenV, isOneV, vop, vbin, vbinI, vun, ↓reduceIte, Nat.reduceEqDiff, Nat.reduceAdd, vcells, vcut, cutSK, cutVK, cutNK, fillV, spl, Nat.reduceLeDiff, V.isNil, bne_self_eq_false]
      · rw [eqL_len (by simp at h6; omega)] at no
        exact exitNew hw (by rfl) (by rfl) (no (by simp))
      refine chooseK_split (fun h7 => ?_) (fun h7 => ?_) <;> simp -implicitDefEqProofs only [h7, List.append_assoc, getL, getL0, setL, setL0, List.set_cons_zero, List.set_cons_succ, encL_len, encMs_len, take7a, take8a, drop7a, JV.len, take7, take9, wset, tailW, tailEnd, isLenV, isOneV, vop, vbin, vbinI, vun, ↓reduceIte, Nat.reduceEqDiff, Nat.reduceAdd, vcells, vcut, cutSK, cutVK, cutNK, fillV, spl, Nat.reduceLeDiff, V.isNil, bne_self_eq_false]
      · rw [eqM_len (by simp at h7; omega)] at no
        exact exitNew hw (by rfl) (by rfl) (no (by simp))
      have hli : is.length = is'.length := by simp at h6; omega
      have hlm : ms.length = ms'.length := by simp at h7; omega
      refine LoopP.intro (fun n0 fr σ' => ∃ (j : Nat), j ≤ is.length ∧ n0 = is.length - j ∧ eqL true is is' = eqL true (is.drop j) (is'.drop j) ∧ fr 2 = .bool true ∧ fr 3 = .ref (some (σ.objs.length, 0)) ∧ fr 4 = .ref (some (σ.objs.length + 1, 0)) ∧ fr 7 = .int .i64 (j : Int) ∧
          σ' = ⟨σ.objs ++ [[.int .i64 k, .bool b, .int .i64 n, .str s, slcE ni (encL is), slcE nm (encMs ms), .int .i64 a], [.int .i64 k', .bool b', .int .i64 n', .str s', slcE ni' (encL is'), slcE nm' (encMs ms'), .int .i64 a']], σ.maps, σ.toks, σ.tys ++ [26, 26], σ.tts⟩) is.length ?_ ?_
      · exact ⟨0, by omega, by omega, rfl, rfl, rfl, rfl, rfl, rfl⟩
      rintro n0 fr σ' ⟨j, hj, rfl, he, f2, f3, f4, f7, rfl⟩
      simp -implicitDefEqProofs only [f2, f3, f4, f7, slcE, List.append_assoc, getL, getL0, setL, setL0, List.set_cons_zero, List.set_cons_succ, encL_len, encMs_len, take7a, take8a, drop7a, JV.len, take7, take9, wset, tailW, tailEnd, isLenV, isOneV, vop, vbin, vbinI, vun, ↓reduceIte, Nat.reduceEqDiff, Nat.reduceAdd, vcells, vcut, cutSK, cutVK, cutNK, fillV, spl, Nat.reduceLeDiff, V.isNil, bne_self_eq_false]
      refine chooseK_split (fun g1 => ?_) (fun g1 => ?_) <;> simp -implicitDefEqProofs only [g1, f2, f3, f4, f7, List.append_assoc, getL, getL0, setL, setL0, List.set_cons_zero, List.set_cons_succ, encL_len, encMs_len, take7a, take8a, drop7a, JV.len, take7, take9, wset, tailW, tailEnd, isLenV, isOneV, vop, vbin, vbinI, vun, ↓reduceIte, Nat.reduceEqDiff, Nat.reduceAdd, vcells, vcut, cutSK, cutVK, cutNK, fillV, spl, Nat.reduceLeDiff, V.isNil, bne_self_eq_false]
      · have hjl : j < is.length := by simp at g1; omega
        have hm := getD_mem (d := jnull) hjl
        have hwt := wtL_mem hm
        rw [drop_getD jnull hjl, drop_getD jnull (show j < is'.length by omega), eqL] at he
        refine ⟨by omega, encL_cells is, ?_⟩
        rw [encL_get is j hjl]
        generalize hv0 : is.getD j jnull = v0 at *
        simp -implicitDefEqProofs only [JV.enc, f2, f3, f4, f7, List.append_assoc, getL, getL0, setL, setL0, List.set_cons_zero, List.set_cons_succ, encL_len, encMs_len, take7a, take8a, drop7a, JV.len, take7, take9, wset, tailW, tailEnd, isLenV, isOneV, vop, vbin, vbinI, vun, ↓reduceIte, Nat.reduceEqDiff, Nat.reduceAdd, vcells, vcut, cutSK, cutVK, cutNK, fillV, spl, Nat.reduceLeDiff, V.isNil, bne_self_eq_false]
        refine ⟨by omega, encL_cells is', ?_⟩
        rw [encL_get is' j (by omega)]
        generalize hw0 : is'.getD j jnull = w0 at *
        simp -implicitDefEqProofs only [JV.enc, f2, f3, f4, f7, List.append_assoc, getL, getL0, setL, setL0, List.set_cons_zero, List.set_cons_succ, encL_len, encMs_len, take7a, take8a, drop7a, JV.len, take7, take9, wset, tailW, tailEnd, isLenV, isOneV, vop, vbin, vbinI, vun, ↓reduceIte, Nat.reduceEqDiff, Nat.reduceAdd, vcells, vcut, cutSK, cutVK, cutNK, fillV, spl, Nat.reduceLeDiff, V.isNil, bne_self_eq_false]
        refine ih v0 w0 (by omega) (by unfold big; omega) _ _ ?_
        simp -implicitDefEqProofs only [f2, f3, f4, f7, List.append_assoc, getL, getL0, setL, setL0, List.set_cons_zero, List.set_cons_succ, encL_len, encMs_len, take7a, take8a, drop7a, JV.len, take7, take9, wset, tailW, tailEnd, isLenV, isOneV, vop, vbin, vbinI, vun, ↓reduceIte, Nat.reduceEqDiff, Nat.reduceAdd, vcells, vcut, cutSK, cutVK, cutNK, fillV, spl, Nat.reduceLeDiff, V.isNil, bne_self_eq_false]
        refine chooseK_split (fun g2 => ?_) (fun g2 => ?_) <;> simp -implicitDefEqProofs only [g2, f2, f3, f4, f7, List.append_assoc, getL, getL0, setL, setL0, List.set_cons_zero, List.set_cons_succ, encL_len, encMs_len, take7a, take8a, drop7a, JV.len, take7, take9, wset, tailW, tailEnd, isLenV, isOneV, vop, vbin, vbinI, vun, ↓reduceIte, Nat.reduceEqDiff, Nat.reduceAdd, vcells, vcut, cutSK, cutVK, cutNK, fillV, spl, Nat.reduceLeDiff, V.isNil, bne_self_eq_false]
        · rw [wrap64 (by omega)]
          rw [g2, Bool.true_and] at he
          exact ⟨is.length - (j + 1), by omega, j + 1, by omega, rfl, he, f2, f3, f4, rfl, rfl⟩
        · rw [g2, Bool.false_and] at he
          exact exitNew hw (by rfl) (by rfl) (no (by simp [he]))
      · have hj2 : j = is.length := by simp at g1; omega
        rw [List.drop_of_length_le (by omega), List.drop_of_length_le (by omega), eqL] at he
        refine LoopP.intro (fun n0 fr σ' => ∃ (j : Nat) (X : List (List V)) (Y : List TypeId), j ≤ ms.length ∧ n0 = ms.length - j ∧ eqM true ms ms' = eqM true (ms.drop j) (ms'.drop j) ∧ fr 2 = .bool true ∧ fr 3 = .ref (some (σ.objs.length, 0)) ∧ fr 4 = .ref (some (σ.objs.length + 1, 0)) ∧ fr 8 = .int .i64 (j : Int) ∧
            σ' = ⟨σ.objs ++ ([.int .i64 k, .bool b, .int .i64 n, .str s, slcE ni (encL is), slcE nm (encMs ms), .int .i64 a] :: [.int .i64 k', .bool b', .int .i64 n', .str s', slcE ni' (encL is'), slcE nm' (encMs ms'), .int .i64 a'] :: X), σ.maps, σ.toks, σ.tys ++ Y, σ.tts⟩) ms.length ?_ ?_
        · exact ⟨0, [], _, by omega, by omega, rfl, f2, f3, f4, rfl, rfl⟩
        clear f2 f3 f4 f7
        rintro n0 fr σ' ⟨j, X, Y, hj, rfl, he', f2, f3, f4, f7, rfl⟩
        simp -implicitDefEqProofs only [f2, f3, f4, f7, slcE, List.append_assoc, getL, getL0, setL, setL0, List.set_cons_zero, List.set_cons_succ, encL_len, encMs_len, take7a, take8a, drop7a, JV.len, take7, take9, wset, tailW, tailEnd, isLenV, isOneV, vop, vbin, vbinI, vun, ↓reduceIte, Nat.reduceEqDiff, Nat.reduceAdd, vcells, vcut, cutSK, cutVK, cutNK, fillV, spl, Nat.reduceLeDiff, V.isNil, bne_self_eq_false]
        refine chooseK_split (fun g3 => ?_) (fun g3 => ?_) <;> simp -implicitDefEqProofs only [g3, f2, f3, f4, f7, List.append_assoc, getL, getL0, setL, setL0, List.set_cons_zero, List.set_cons_succ, encL_len, encMs_len, take7a, take8a, drop7a, JV.len, take7, take9, wset, tailW, tailEnd, isLenV, isOneV, vop, vbin, vbinI, vun, ↓reduceIte, Nat.reduceEqDiff, Nat.reduceAdd, vcells, vcut, cutSK, cutVK, cutNK, fillV, spl, Nat.reduceLeDiff, V.isNil, bne_self_eq_false]
        · have hjl : j < ms.length := by simp at g3; omega
          have hm := getD_mem (d := jmnull) hjl
          have hwt := wtM_mem hm
          rw [drop_getD jmnull hjl, drop_getD jmnull (show j < ms'.length by omega), eqM] at he'
          refine ⟨by omega, encMs_cells ms, ?_⟩
          rw [encMs_get ms j hjl, show ms.getD j (.mk [] (jv 0 false 0 [] [] [] 0) 0) = ms.getD j jmnull from rfl]
          generalize hv0 : ms.getD j jmnull = v0 at *
          obtain ⟨x0, v0, a0⟩ := v0
          simp -implicitDefEqProofs only [JM.enc, JM.len, f2, f3, f4, f7, List.append_assoc, getL, getL0, setL, setL0, List.set_cons_zero, List.set_cons_succ, encL_len, encMs_len, take7a, take8a, drop7a, JV.len, take7, take9, wset, tailW, tailEnd, isLenV, isOneV, vop, vbin, vbinI, vun, ↓reduceIte, Nat.reduceEqDiff, Nat.reduceAdd, vcells, vcut, cutSK, cutVK, cutNK, fillV, spl, Nat.reduceLeDiff, V.isNil, bne_self_eq_false]
          refine ⟨by omega, encMs_cells ms', ?_⟩
          rw [encMs_get ms' j (by omega), show ms'.getD j (.mk [] (jv 0 false 0 [] [] [] 0) 0) = ms'.getD j jmnull from rfl]
          generalize hw0 : ms'.getD j jmnull = w0 at *
          obtain ⟨y0, w0, b0⟩ := w0
          rw [JM.wt] at hwt
          rw [eqMm] at he'
          simp -implicitDefEqProofs only [JM.enc, JM.len, f2, f3, f4, f7, List.append_assoc, getL, getL0, setL, setL0, List.set_cons_zero, List.set_cons_succ, encL_len, encMs_len, take7a, take8a, drop7a, JV.len, take7, take9, JM.cells, wset, tailW, tailEnd, isLenV, isOneV, vop, vbin, vbinI, vun, ↓reduceIte, Nat.reduceEqDiff, Nat.reduceAdd, vcells, vcut, cutSK, cutVK, cutNK, fillV, spl, Nat.reduceLeDiff, V.isNil, bne_self_eq_false]
          refine chooseK_split (fun g4 => ?_) (fun g4 => ?_) <;> simp -implicitDefEqProofs only [g4, f2, f3, f4, f7, List.append_assoc, getL, getL0, setL, setL0, List.set_cons_zero, List.set_cons_succ, encL_len, encMs_len, take7a, take8a, drop7a, JV.len, take7, take9, wset, tailW, tailEnd, isLenV, isOneV, vop, vbin, vbinI, vun, ↓reduceIte, Nat.reduceEqDiff, Nat.reduceAdd, vcells, vcut, cutSK, cutVK, cutNK, fillV, spl, Nat.reduceLeDiff, V.isNil, bne_self_eq_false]
          rotate_left
          · rw [g4, Bool.false_and, Bool.false_and, Bool.false_and] at he'
            exact exitNew hw (by rfl) (by rfl) (no (by simp [he']))
          refine chooseK_split (fun g5 => ?_) (fun g5 => ?_) <;> simp -implicitDefEqProofs only [g5, f2, f3, f4, f7, List.append_assoc, getL, getL0, setL, setL0, List.set_cons_zero, List.set_cons_succ, encL_len, encMs_len, take7a, take8a, drop7a, JV.len, take7, take9, wset, tailW, tailEnd, isLenV, isOneV, vop, vbin, vbinI, vun, ↓reduceIte, Nat.reduceEqDiff, Nat.reduceAdd, vcells, vcut, cutSK, cutVK, cutNK, fillV, spl, Nat.reduceLeDiff, V.isNil, bne_self_eq_false]
          · rw [show (a0 == b0) = false by simpa using g5] at he'
            exact exitNew hw (by rfl) (by rfl) (no (by simp [he']))
          have g5' : a0 = b0 := by simpa using g5
          refine ih v0 w0 (by omega) (by unfold big; omega) _ _ ?_
          simp -implicitDefEqProofs only [f2, f3, f4, f7, List.append_assoc, getL, getL0, setL, setL0, List.set_cons_zero, List.set_cons_succ, encL_len, encMs_len, take7a, take8a, drop7a, JV.len, take7, take9, wset, tailW, tailEnd, isLenV, isOneV, vop, vbin, vbinI, vun, ↓reduceIte, Nat.reduceEqDiff, Nat.reduceAdd, vcells, vcut, cutSK, cutVK, cutNK, fillV, spl, Nat.reduceLeDiff, V.isNil, bne_self_eq_false]
          refine chooseK_split (fun g6 => ?_) (fun g6 => ?_) <;> simp -implicitDefEqProofs only [g6, f2, f3, f4, f7, List.append_assoc, getL, getL0, setL, setL0, List.set_cons_zero, List.set_cons_succ, encL_len, encMs_len, take7a, take8a, drop7a, JV.len, take7, take9, wset, tailW, tailEnd, isLenV, isOneV, vop, vbin, vbinI, vun, ↓reduceIte, Nat.reduceEqDiff, Nat.reduceAdd, vcells, vcut, cutSK, cutVK, cutNK, fillV, spl, Nat.reduceLeDiff, V.isNil, bne_self_eq_false]
          · rw [wrap64 (by omega)]
            exact ⟨ms.length - (j + 1), by omega, j + 1, _, _, by omega, rfl, by simp [*], f2, f3, f4, rfl, rfl⟩
          · exact exitNew hw (by rfl) (by rfl) (no (by simp [he', g6]))
        · have hj3 : j = ms.length := by simp at g3; omega
          rw [List.drop_of_length_le (by omega), List.drop_of_length_le (by omega), eqM] at he'
          rw [he, he'] at h
          exact exitNew hw (by rfl) (by rfl) (by simpa [*] using h)

mutual
theorem eqJ_refl (o : Bool) : ∀ v, eqJ o v v = true
  | .mk k b n s ni is nm ms a => by simp [eqJ, eqL_refl o is, eqM_refl o ms]
theorem eqL_refl (o : Bool) : ∀ l, eqL o l l = true
  | [] => by rw [eqL]
  | v :: r => by simp [eqL, eqJ_refl o v, eqL_refl o r]
theorem eqMm_refl (o : Bool) : ∀ m, eqMm o m m = true
  | .mk k v a => by simp [eqMm, eqJ_refl o v]
theorem eqM_refl (o : Bool) : ∀ l, eqM o l l = true
  | [] => by rw [eqM]
  | v :: r => by simp [eqM, eqMm_refl o v, eqM_refl o r]
end
mutual
theorem eqJ_strip : ∀ v, eqJ false v (stripJ v) = true
  | .mk k b n s ni is nm ms a => by simp [stripJ, eqJ, eqL_strip is, eqM_strip ms]
theorem eqL_strip : ∀ l, eqL false l (stripL l) = true
  | [] => by rw [stripL, eqL]
  | v :: r => by simp [stripL, eqL, eqJ_strip v, eqL_strip r]
theorem eqMm_strip : ∀ m, eqMm false m (stripMm m) = true
  | .mk k v a => by simp [stripMm, eqMm, eqJ_strip v]
theorem eqM_strip : ∀ l, eqM false l (stripM l) = true
  | [] => by rw [stripM, eqM]
  | v :: r => by simp [stripM, eqM, eqMm_strip v, eqM_strip r]
end
end Go.Proofs.YtgdcdkgmeomhpaaGreatDoor

namespace Go.Proofs.YtgdcdkgmeomhpaaGreatDoor
open Go Go.Vs
set_option maxRecDepth 100000

/-- r01IsSpace -/
def vf_r01IsSpace : VFunc :=
  { m := 17, code := (.seq (.reg [⟨(some 2), none, (.op (.mov (.c (.bool false))))⟩])
    (.seq (.reg [⟨(some 3), none, (.op (.mov (.t 0)))⟩, ⟨(some 4), none, (.op (.bin .eql (.t 3) (.c (.int .u8 9))))⟩, ⟨(some 5), none, (.op (.mov (.t 4)))⟩, ⟨(some 6), (some (5, false)), (.op (.mov (.t 0)))⟩, ⟨(some 7), (some (5, false)), (.op (.bin .eql (.t 6) (.c (.int .u8 10))))⟩, ⟨(some 8), none, (.op (.pick (.t 5) (.c (.bool true)) (.t 7)))⟩, ⟨(some 9), none, (.op (.mov (.t 8)))⟩, ⟨(some 10), (some (9, false)), (.op (.mov (.t 0)))⟩, ⟨(some 11), (some (9, false)), (.op (.bin .eql (.t 10) (.c (.int .u8 13))))⟩, ⟨(some 12), none, (.op (.pick (.t 9) (.c (.bool true)) (.t 11)))⟩, ⟨(some 13), none, (.op (.mov (.t 12)))⟩, ⟨(some 14), (some (13, false)), (.op (.mov (.t 0)))⟩, ⟨(some 15), (some (13, false)), (.op (.bin .eql (.t 14) (.c (.int .u8 32))))⟩, ⟨(some 16), none, (.op (.pick (.t 13) (.c (.bool true)) (.t 15)))⟩, ⟨(some 2), none, (.op (.mov (.t 16)))⟩])
    .ret)),
    res := [(.t 2)] }

theorem cf_r01IsSpace : cfunc Go.Proofs.Tryz.prog 43 = some vf_r01IsSpace := by kernel_rfl

/-- r01Decode -/
def vf_r01Decode : VFunc :=
  { m := 71, code := (.seq (.reg [⟨(some 4), none, (.op (.mov (.c (.int .i64 0))))⟩, ⟨(some 5), none, (.op (.mov (.c (.int .i64 0))))⟩])
    (.seq (.seq (.reg [⟨(some 9), none, (.op (.mov (.t 1)))⟩, ⟨(some 10), none, (.op (.bin .lss (.t 9) (.c (.int .i64 0))))⟩, ⟨(some 11), none, (.op (.mov (.t 10)))⟩, ⟨(some 12), (some (11, false)), (.op (.mov (.t 1)))⟩, ⟨(some 13), (some (11, false)), (.op (.mov (.t 0)))⟩, ⟨(some 14), (some (11, false)), (.op (.lenS (.t 13)))⟩, ⟨(some 15), (some (11, false)), (.op (.bin .geq (.t 12) (.t 14)))⟩, ⟨(some 16), none, (.op (.pick (.t 11) (.c (.bool true)) (.t 15)))⟩])
    (.cond (.t 16) (.seq (.reg [⟨(some 4), none, (.op (.mov (.c (.int .i64 0))))⟩, ⟨(some 5), none, (.op (.mov (.c (.int .i64 0))))⟩])
    .ret) .skip))
    (.seq (.seq (.reg [⟨(some 6), none, (.op (.mov (.c (.int .i64 1))))⟩])
    (.block 0 (.loop (.seq (.seq (.reg [⟨(some 17), none, (.op (.mov (.t 6)))⟩, ⟨(some 18), none, (.op (.bin .leq (.t 17) (.c (.int .i64 4))))⟩, ⟨(some 19), none, (.op (.mov (.t 18)))⟩, ⟨(some 20), (some (19, true)), (.op (.mov (.t 6)))⟩, ⟨(some 21), (some (19, true)), (.op (.mov (.t 0)))⟩, ⟨(some 22), (some (19, true)), (.op (.lenS (.t 21)))⟩, ⟨(some 23), (some (19, true)), (.op (.mov (.t 1)))⟩, ⟨(some 24), (some (19, true)), (.op (.bin .sub (.t 22) (.t 23)))⟩, ⟨(some 25), (some (19, true)), (.op (.bin .leq (.t 20) (.t 24)))⟩, ⟨(some 26), none, (.op (.pick (.t 19) (.t 25) (.c (.bool false))))⟩])
    (.cond (.t 26) .skip (.exit 0)))
    (.seq (.block 1 (.seq (.reg [⟨(some 29), none, (.op (.mov (.t 0)))⟩, ⟨(some 30), none, (.op (.mov (.t 1)))⟩, ⟨(some 31), none, (.op (.idxS (.t 29) (.t 30)))⟩, ⟨(some 32), none, (.op (.cvI .i64 (.t 31)))⟩, ⟨(some 7), none, (.op (.mov (.t 32)))⟩])
    (.seq (.seq (.reg [⟨(some 33), none, (.op (.mov (.t 6)))⟩, ⟨(some 34), none, (.op (.bin .eql (.t 33) (.c (.int .i64 2))))⟩])
    (.cond (.t 34) (.reg [⟨(some 35), none, (.op (.mov (.t 7)))⟩, ⟨(some 36), none, (.op (.bin .rem (.t 35) (.c (.int .i64 32))))⟩, ⟨(some 7), none, (.op (.mov (.t 36)))⟩]) .skip))
    (.seq (.seq (.reg [⟨(some 37), none, (.op (.mov (.t 6)))⟩, ⟨(some 38), none, (.op (.bin .eql (.t 37) (.c (.int .i64 3))))⟩])
    (.cond (.t 38) (.reg [⟨(some 39), none, (.op (.mov (.t 7)))⟩, ⟨(some 40), none, (.op (.bin .rem (.t 39) (.c (.int .i64 16))))⟩, ⟨(some 7), none, (.op (.mov (.t 40)))⟩]) .skip))
    (.seq (.seq (.reg [⟨(some 41), none, (.op (.mov (.t 6)))⟩, ⟨(some 42), none, (.op (.bin .eql (.t 41) (.c (.int .i64 4))))⟩])
    (.cond (.t 42) (.reg [⟨(some 43), none, (.op (.mov (.t 7)))⟩, ⟨(some 44), none, (.op (.bin .rem (.t 43) (.c (.int .i64 8))))⟩, ⟨(some 7), none, (.op (.mov (.t 44)))⟩]) .skip))
    (.seq (.seq (.reg [⟨(some 8), none, (.op (.mov (.c (.int .i64 1))))⟩])
    (.block 2 (.loop (.seq (.seq (.reg [⟨(some 45), none, (.op (.mov (.t 8)))⟩, ⟨(some 46), none, (.op (.mov (.t 6)))⟩, ⟨(some 47), none, (.op (.bin .lss (.t 45) (.t 46)))⟩])
    (.cond (.t 47) .skip (.exit 2)))
    (.seq (.block 3 (.reg [⟨(some 50), none, (.op (.mov (.t 7)))⟩, ⟨(some 51), none, (.op (.bin .mul (.t 50) (.c (.int .i64 64))))⟩, ⟨(some 52), none, (.op (.mov (.t 0)))⟩, ⟨(some 53), none, (.op (.mov (.t 1)))⟩, ⟨(some 54), none, (.op (.mov (.t 8)))⟩, ⟨(some 55), none, (.op (.bin .add (.t 53) (.t 54)))⟩, ⟨(some 56), none, (.op (.idxS (.t 52) (.t 55)))⟩, ⟨(some 57), none, (.op (.cvI .i64 (.t 56)))⟩, ⟨(some 58), none, (.op (.bin .rem (.t 57) (.c (.int .i64 64))))⟩, ⟨(some 59), none, (.op (.bin .add (.t 51) (.t 58)))⟩, ⟨(some 7), none, (.op (.mov (.t 59)))⟩]))
    (.reg [⟨(some 48), none, (.op (.mov (.t 8)))⟩, ⟨(some 49), none, (.op (.bin .add (.t 48) (.c (.int .i64 1))))⟩, ⟨(some 8), none, (.op (.mov (.t 49)))⟩]))))))
    (.seq (.draw [⟨⟨(some 60), none, (.op (.mov (.t 7)))⟩, none⟩, ⟨⟨(some 62), none, (.op (.mov (.t 0)))⟩, none⟩, ⟨⟨(some 63), none, (.op (.mov (.t 1)))⟩, none⟩, ⟨⟨(some 64), none, (.op (.mov (.t 1)))⟩, none⟩, ⟨⟨(some 65), none, (.op (.mov (.t 6)))⟩, none⟩, ⟨⟨(some 66), none, (.op (.bin .add (.t 64) (.t 65)))⟩, none⟩, ⟨⟨(some 67), none, (.op (.slS (.t 62) (some (.t 63)) (some (.t 66))))⟩, none⟩, ⟨⟨(some 61), none, (.call 54 [(.t 60)])⟩, (some [⟨(some 62), none, (.op (.mov (.t 0)))⟩, ⟨(some 63), none, (.op (.mov (.t 1)))⟩, ⟨(some 64), none, (.op (.mov (.t 1)))⟩, ⟨(some 65), none, (.op (.mov (.t 6)))⟩, ⟨(some 66), none, (.op (.bin .add (.t 64) (.t 65)))⟩, ⟨(some 67), none, (.op (.slS (.t 62) (some (.t 63)) (some (.t 66))))⟩])⟩, ⟨⟨(some 68), none, (.op (.bin .eql (.t 61) (.t 67)))⟩, none⟩])
    (.cond (.t 68) (.seq (.reg [⟨(some 69), none, (.op (.mov (.t 7)))⟩, ⟨(some 70), none, (.op (.mov (.t 6)))⟩, ⟨(some 4), none, (.op (.mov (.t 69)))⟩, ⟨(some 5), none, (.op (.mov (.t 70)))⟩])
    .ret) .skip))))))))
    (.reg [⟨(some 27), none, (.op (.mov (.t 6)))⟩, ⟨(some 28), none, (.op (.bin .add (.t 27) (.c (.int .i64 1))))⟩, ⟨(some 6), none, (.op (.mov (.t 28)))⟩]))))))
    (.seq (.reg [⟨(some 4), none, (.op (.mov (.c (.int .i64 0))))⟩, ⟨(some 5), none, (.op (.mov (.c (.int .i64 0))))⟩])
    .ret)))),
    res := [(.t 4), (.t 5)] }

theorem cf_r01Decode : cfunc Go.Proofs.Tryz.prog 52 = some vf_r01Decode := by kernel_rfl

/-- r01Encode -/
def vf_r01Encode : VFunc :=
  { m := 76, code := (.seq (.reg [⟨(some 2), none, (.op (.mov (.c (.str []))))⟩])
    (.seq (.block 0 (.seq (.reg [⟨(some 4), none, (.op (.mov (.t 0)))⟩, ⟨(some 5), none, (.op (.bin .lss (.t 4) (.c (.int .i64 0))))⟩, ⟨(some 6), none, (.op (.mov (.t 5)))⟩, ⟨(some 7), (some (6, false)), (.op (.mov (.t 0)))⟩, ⟨(some 8), (some (6, false)), (.op (.bin .gtr (.t 7) (.c (.int .i64 1114111))))⟩, ⟨(some 9), none, (.op (.pick (.t 6) (.c (.bool true)) (.t 8)))⟩, ⟨(some 10), none, (.op (.mov (.t 9)))⟩, ⟨(some 11), (some (10, false)), (.op (.mov (.t 0)))⟩, ⟨(some 12), (some (10, false)), (.op (.bin .geq (.t 11) (.c (.int .i64 55296))))⟩, ⟨(some 13), (some (10, false)), (.op (.mov (.t 12)))⟩, ⟨(some 14), (some (13, true)), (.op (.mov (.t 0)))⟩, ⟨(some 15), (some (13, true)), (.op (.bin .leq (.t 14) (.c (.int .i64 57343))))⟩, ⟨(some 16), (some (10, false)), (.op (.pick (.t 13) (.t 15) (.c (.bool false))))⟩, ⟨(some 17), none, (.op (.pick (.t 10) (.c (.bool true)) (.t 16)))⟩, ⟨(some 3), none, (.op (.mov (.t 17)))⟩])
    (.cond (.t 3) (.seq (.reg [⟨(some 2), none, (.op (.mov (.c (.str []))))⟩])
    .ret) (.seq (.reg [⟨(some 19), none, (.op (.mov (.t 0)))⟩, ⟨(some 20), none, (.op (.bin .lss (.t 19) (.c (.int .i64 128))))⟩, ⟨(some 18), none, (.op (.mov (.t 20)))⟩])
    (.cond (.t 18) (.seq (.reg [⟨(some 21), none, (.op (.mov (.t 0)))⟩, ⟨(some 22), none, (.op (.cvI .u8 (.t 21)))⟩, ⟨(some 23), none, (.op (.bslc 1 [(.t 22)]))⟩, ⟨(some 24), none, (.op (.cvBS (.t 23)))⟩, ⟨(some 2), none, (.op (.mov (.t 24)))⟩])
    .ret) (.seq (.reg [⟨(some 26), none, (.op (.mov (.t 0)))⟩, ⟨(some 27), none, (.op (.bin .lss (.t 26) (.c (.int .i64 2048))))⟩, ⟨(some 25), none, (.op (.mov (.t 27)))⟩])
    (.cond (.t 25) (.seq (.reg [⟨(some 28), none, (.op (.mov (.t 0)))⟩, ⟨(some 29), none, (.op (.bin .quo (.t 28) (.c (.int .i64 64))))⟩, ⟨(some 30), none, (.op (.bin .add (.c (.int .i64 192)) (.t 29)))⟩, ⟨(some 31), none, (.op (.cvI .u8 (.t 30)))⟩, ⟨(some 32), none, (.op (.mov (.t 0)))⟩, ⟨(some 33), none, (.op (.bin .rem (.t 32) (.c (.int .i64 64))))⟩, ⟨(some 34), none, (.op (.bin .add (.c (.int .i64 128)) (.t 33)))⟩, ⟨(some 35), none, (.op (.cvI .u8 (.t 34)))⟩, ⟨(some 36), none, (.op (.bslc 1 [(.t 31), (.t 35)]))⟩, ⟨(some 37), none, (.op (.cvBS (.t 36)))⟩, ⟨(some 2), none, (.op (.mov (.t 37)))⟩])
    .ret) (.seq (.reg [⟨(some 39), none, (.op (.mov (.t 0)))⟩, ⟨(some 40), none, (.op (.bin .lss (.t 39) (.c (.int .i64 65536))))⟩, ⟨(some 38), none, (.op (.mov (.t 40)))⟩])
    (.cond (.t 38) (.seq (.reg [⟨(some 41), none, (.op (.mov (.t 0)))⟩, ⟨(some 42), none, (.op (.bin .quo (.t 41) (.c (.int .i64 4096))))⟩, ⟨(some 43), none, (.op (.bin .add (.c (.int .i64 224)) (.t 42)))⟩, ⟨(some 44), none, (.op (.cvI .u8 (.t 43)))⟩, ⟨(some 45), none, (.op (.mov (.t 0)))⟩, ⟨(some 46), none, (.op (.bin .quo (.t 45) (.c (.int .i64 64))))⟩, ⟨(some 47), none, (.op (.bin .rem (.t 46) (.c (.int .i64 64))))⟩, ⟨(some 48), none, (.op (.bin .add (.c (.int .i64 128)) (.t 47)))⟩, ⟨(some 49), none, (.op (.cvI .u8 (.t 48)))⟩, ⟨(some 50), none, (.op (.mov (.t 0)))⟩, ⟨(some 51), none, (.op (.bin .rem (.t 50) (.c (.int .i64 64))))⟩, ⟨(some 52), none, (.op (.bin .add (.c (.int .i64 128)) (.t 51)))⟩, ⟨(some 53), none, (.op (.cvI .u8 (.t 52)))⟩, ⟨(some 54), none, (.op (.bslc 1 [(.t 44), (.t 49), (.t 53)]))⟩, ⟨(some 55), none, (.op (.cvBS (.t 54)))⟩, ⟨(some 2), none, (.op (.mov (.t 55)))⟩])
    .ret) .skip)))))))))
    (.seq (.reg [⟨(some 56), none, (.op (.mov (.t 0)))⟩, ⟨(some 57), none, (.op (.bin .quo (.t 56) (.c (.int .i64 262144))))⟩, ⟨(some 58), none, (.op (.bin .add (.c (.int .i64 240)) (.t 57)))⟩, ⟨(some 59), none, (.op (.cvI .u8 (.t 58)))⟩, ⟨(some 60), none, (.op (.mov (.t 0)))⟩, ⟨(some 61), none, (.op (.bin .quo (.t 60) (.c (.int .i64 4096))))⟩, ⟨(some 62), none, (.op (.bin .rem (.t 61) (.c (.int .i64 64))))⟩, ⟨(some 63), none, (.op (.bin .add (.c (.int .i64 128)) (.t 62)))⟩, ⟨(some 64), none, (.op (.cvI .u8 (.t 63)))⟩, ⟨(some 65), none, (.op (.mov (.t 0)))⟩, ⟨(some 66), none, (.op (.bin .quo (.t 65) (.c (.int .i64 64))))⟩, ⟨(some 67), none, (.op (.bin .rem (.t 66) (.c (.int .i64 64))))⟩, ⟨(some 68), none, (.op (.bin .add (.c (.int .i64 128)) (.t 67)))⟩, ⟨(some 69), none, (.op (.cvI .u8 (.t 68)))⟩, ⟨(some 70), none, (.op (.mov (.t 0)))⟩, ⟨(some 71), none, (.op (.bin .rem (.t 70) (.c (.int .i64 64))))⟩, ⟨(some 72), none, (.op (.bin .add (.c (.int .i64 128)) (.t 71)))⟩, ⟨(some 73), none, (.op (.cvI .u8 (.t 72)))⟩, ⟨(some 74), none, (.op (.bslc 1 [(.t 59), (.t 64), (.t 69), (.t 73)]))⟩, ⟨(some 75), none, (.op (.cvBS (.t 74)))⟩, ⟨(some 2), none, (.op (.mov (.t 75)))⟩])
    .ret))),
    res := [(.t 2)] }

theorem cf_r01Encode : cfunc Go.Proofs.Tryz.prog 54 = some vf_r01Encode := by kernel_rfl

/-- r06Has -/
def vf_r06Has : VFunc :=
  { m := 29, code := (.seq (.reg [⟨(some 6), none, (.op (.mov (.c (.bool false))))⟩])
    (.seq (.reg [⟨(some 7), none, (.op (.mov (.t 1)))⟩, ⟨(some 8), none, (.op (.bin .geq (.t 7) (.c (.int .i64 0))))⟩, ⟨(some 9), none, (.op (.mov (.t 8)))⟩, ⟨(some 10), (some (9, true)), (.op (.mov (.t 0)))⟩, ⟨(some 11), (some (9, true)), (.op (.lenS (.t 10)))⟩, ⟨(some 12), (some (9, true)), (.op (.mov (.t 1)))⟩, ⟨(some 13), (some (9, true)), (.op (.bin .sub (.t 11) (.t 12)))⟩, ⟨(some 14), (some (9, true)), (.op (.mov (.t 2)))⟩, ⟨(some 15), (some (9, true)), (.op (.lenS (.t 14)))⟩, ⟨(some 16), (some (9, true)), (.op (.bin .geq (.t 13) (.t 15)))⟩, ⟨(some 17), none, (.op (.pick (.t 9) (.t 16) (.c (.bool false))))⟩, ⟨(some 18), none, (.op (.mov (.t 17)))⟩, ⟨(some 19), (some (18, true)), (.op (.mov (.t 0)))⟩, ⟨(some 20), (some (18, true)), (.op (.mov (.t 1)))⟩, ⟨(some 21), (some (18, true)), (.op (.mov (.t 1)))⟩, ⟨(some 22), (some (18, true)), (.op (.mov (.t 2)))⟩, ⟨(some 23), (some (18, true)), (.op (.lenS (.t 22)))⟩, ⟨(some 24), (some (18, true)), (.op (.bin .add (.t 21) (.t 23)))⟩, ⟨(some 25), (some (18, true)), (.op (.slS (.t 19) (some (.t 20)) (some (.t 24))))⟩, ⟨(some 26), (some (18, true)), (.op (.mov (.t 2)))⟩, ⟨(some 27), (some (18, true)), (.op (.bin .eql (.t 25) (.t 26)))⟩, ⟨(some 28), none, (.op (.pick (.t 18) (.t 27) (.c (.bool false))))⟩, ⟨(some 6), none, (.op (.mov (.t 28)))⟩])
    .ret)),
    res := [(.t 6)] }

theorem cf_r06Has : cfunc Go.Proofs.Tryz.prog 18 = some vf_r06Has := by kernel_rfl

/-- r10Parse -/
def vf_r10Parse : VFunc :=
  { m := 83, code := (.seq (.reg [⟨(some 4), none, (.op (.mov (.c (.str []))))⟩, ⟨(some 5), none, (.op (.mov (.c (.int .i64 0))))⟩, ⟨(some 6), none, (.op (.mov (.c (.int .i64 0))))⟩])
    (.seq (.seq (.reg [⟨(some 11), none, (.op (.mov (.t 1)))⟩, ⟨(some 12), none, (.op (.bin .lss (.t 11) (.c (.int .i64 0))))⟩, ⟨(some 13), none, (.op (.mov (.t 12)))⟩, ⟨(some 14), (some (13, false)), (.op (.mov (.t 1)))⟩, ⟨(some 15), (some (13, false)), (.op (.mov (.t 0)))⟩, ⟨(some 16), (some (13, false)), (.op (.lenS (.t 15)))⟩, ⟨(some 17), (some (13, false)), (.op (.bin .geq (.t 14) (.t 16)))⟩, ⟨(some 18), none, (.op (.pick (.t 13) (.c (.bool true)) (.t 17)))⟩, ⟨(some 19), none, (.op (.mov (.t 18)))⟩, ⟨(some 20), (some (19, false)), (.op (.mov (.t 0)))⟩, ⟨(some 21), (some (19, false)), (.op (.mov (.t 1)))⟩, ⟨(some 22), (some (19, false)), (.op (.idxS (.t 20) (.t 21)))⟩, ⟨(some 23), (some (19, false)), (.op (.bin .neq (.t 22) (.c (.int .u8 34))))⟩, ⟨(some 24), none, (.op (.pick (.t 19) (.c (.bool true)) (.t 23)))⟩])
    (.cond (.t 24) (.seq (.reg [⟨(some 25), none, (.op (.mov (.t 1)))⟩, ⟨(some 4), none, (.op (.mov (.c (.str []))))⟩, ⟨(some 5), none, (.op (.mov (.t 25)))⟩, ⟨(some 6), none, (.op (.mov (.c (.int .i64 7))))⟩])
    .ret) .skip))
    (.seq (.reg [⟨(some 7), none, (.op (.mov (.c (.str []))))⟩])
    (.seq (.seq (.reg [⟨(some 26), none, (.op (.mov (.t 1)))⟩, ⟨(some 27), none, (.op (.bin .add (.t 26) (.c (.int .i64 1))))⟩, ⟨(some 8), none, (.op (.mov (.t 27)))⟩])
    (.block 0 (.loop (.seq (.seq (.reg [⟨(some 28), none, (.op (.mov (.t 8)))⟩, ⟨(some 29), none, (.op (.mov (.t 0)))⟩, ⟨(some 30), none, (.op (.lenS (.t 29)))⟩, ⟨(some 31), none, (.op (.bin .lss (.t 28) (.t 30)))⟩])
    (.cond (.t 31) .skip (.exit 0)))
    (.block 1 (.seq (.reg [⟨(some 33), none, (.op (.mov (.t 0)))⟩, ⟨(some 34), none, (.op (.mov (.t 8)))⟩, ⟨(some 35), none, (.call 52 [(.t 33), (.t 34)])⟩, ⟨(some 32), none, (.op (.mov (.t 35)))⟩, ⟨(some 36), none, (.op (.ext (.t 32) 0))⟩, ⟨(some 37), none, (.op (.ext (.t 32) 1))⟩, ⟨(some 9), none, (.op (.mov (.t 36)))⟩, ⟨(some 10), none, (.op (.mov (.t 37)))⟩])
    (.seq (.block 2 (.seq (.reg [⟨(some 39), none, (.op (.mov (.t 10)))⟩, ⟨(some 40), none, (.op (.bin .eql (.t 39) (.c (.int .i64 0))))⟩, ⟨(some 38), none, (.op (.mov (.t 40)))⟩])
    (.cond (.t 38) (.seq (.reg [⟨(some 41), none, (.op (.mov (.t 8)))⟩, ⟨(some 4), none, (.op (.mov (.c (.str []))))⟩, ⟨(some 5), none, (.op (.mov (.t 41)))⟩, ⟨(some 6), none, (.op (.mov (.c (.int .i64 5))))⟩])
    .ret) (.seq (.reg [⟨(some 43), none, (.op (.mov (.t 9)))⟩, ⟨(some 44), none, (.op (.bin .lss (.t 43) (.c (.int .i64 32))))⟩, ⟨(some 42), none, (.op (.mov (.t 44)))⟩])
    (.cond (.t 42) (.seq (.reg [⟨(some 45), none, (.op (.mov (.t 8)))⟩, ⟨(some 4), none, (.op (.mov (.c (.str []))))⟩, ⟨(some 5), none, (.op (.mov (.t 45)))⟩, ⟨(some 6), none, (.op (.mov (.c (.int .i64 6))))⟩])
    .ret) (.seq (.reg [⟨(some 47), none, (.op (.mov (.t 9)))⟩, ⟨(some 48), none, (.op (.bin .eql (.t 47) (.c (.int .i64 34))))⟩, ⟨(some 46), none, (.op (.mov (.t 48)))⟩])
    (.cond (.t 46) (.seq (.reg [⟨(some 49), none, (.op (.mov (.t 7)))⟩, ⟨(some 50), none, (.op (.mov (.t 8)))⟩, ⟨(some 51), none, (.op (.bin .add (.t 50) (.c (.int .i64 1))))⟩, ⟨(some 4), none, (.op (.mov (.t 49)))⟩, ⟨(some 5), none, (.op (.mov (.t 51)))⟩, ⟨(some 6), none, (.op (.mov (.c (.int .i64 0))))⟩])
    .ret) (.seq (.reg [⟨(some 53), none, (.op (.mov (.t 9)))⟩, ⟨(some 54), none, (.op (.bin .eql (.t 53) (.c (.int .i64 92))))⟩, ⟨(some 55), none, (.op (.mov (.t 54)))⟩, ⟨(some 56), (some (55, true)), (.op (.mov (.t 8)))⟩, ⟨(some 57), (some (55, true)), (.op (.bin .add (.t 56) (.c (.int .i64 1))))⟩, ⟨(some 58), (some (55, true)), (.op (.mov (.t 0)))⟩, ⟨(some 59), (some (55, true)), (.op (.lenS (.t 58)))⟩, ⟨(some 60), (some (55, true)), (.op (.bin .eql (.t 57) (.t 59)))⟩, ⟨(some 61), none, (.op (.pick (.t 55) (.t 60) (.c (.bool false))))⟩, ⟨(some 52), none, (.op (.mov (.t 61)))⟩])
    (.cond (.t 52) (.seq (.reg [⟨(some 62), none, (.op (.mov (.t 1)))⟩, ⟨(some 4), none, (.op (.mov (.c (.str []))))⟩, ⟨(some 5), none, (.op (.mov (.t 62)))⟩, ⟨(some 6), none, (.op (.mov (.c (.int .i64 8))))⟩])
    .ret) (.seq (.reg [⟨(some 64), none, (.op (.mov (.t 9)))⟩, ⟨(some 65), none, (.op (.bin .eql (.t 64) (.c (.int .i64 92))))⟩, ⟨(some 63), none, (.op (.mov (.t 65)))⟩])
    (.cond (.t 63) (.seq (.reg [⟨(some 67), none, (.op (.mov (.t 0)))⟩, ⟨(some 68), none, (.op (.mov (.t 8)))⟩, ⟨(some 69), none, (.call 53 [(.t 67), (.t 68)])⟩, ⟨(some 66), none, (.op (.mov (.t 69)))⟩, ⟨(some 70), none, (.op (.ext (.t 66) 0))⟩, ⟨(some 71), none, (.op (.ext (.t 66) 1))⟩, ⟨(some 9), none, (.op (.mov (.t 70)))⟩, ⟨(some 10), none, (.op (.mov (.t 71)))⟩])
    (.seq (.reg [⟨(some 72), none, (.op (.mov (.t 10)))⟩, ⟨(some 73), none, (.op (.bin .eql (.t 72) (.c (.int .i64 0))))⟩])
    (.cond (.t 73) (.seq (.reg [⟨(some 74), none, (.op (.mov (.t 8)))⟩, ⟨(some 4), none, (.op (.mov (.c (.str []))))⟩, ⟨(some 5), none, (.op (.mov (.t 74)))⟩, ⟨(some 6), none, (.op (.mov (.c (.int .i64 16))))⟩])
    .ret) .skip))) .skip)))))))))))
    (.seq (.reg [⟨(some 75), none, (.op (.mov (.t 7)))⟩, ⟨(some 76), none, (.op (.mov (.t 9)))⟩, ⟨(some 77), none, (.call 54 [(.t 76)])⟩, ⟨(some 78), none, (.op (.bin .add (.t 75) (.t 77)))⟩, ⟨(some 7), none, (.op (.mov (.t 78)))⟩])
    (.reg [⟨(some 79), none, (.op (.mov (.t 8)))⟩, ⟨(some 80), none, (.op (.mov (.t 10)))⟩, ⟨(some 81), none, (.op (.bin .add (.t 79) (.t 80)))⟩, ⟨(some 8), none, (.op (.mov (.t 81)))⟩])))))))))
    (.seq (.reg [⟨(some 82), none, (.op (.mov (.t 1)))⟩, ⟨(some 4), none, (.op (.mov (.c (.str []))))⟩, ⟨(some 5), none, (.op (.mov (.t 82)))⟩, ⟨(some 6), none, (.op (.mov (.c (.int .i64 8))))⟩])
    .ret))))),
    res := [(.t 4), (.t 5), (.t 6)] }

theorem cf_r10Parse : cfunc Go.Proofs.Tryz.prog 39 = some vf_r10Parse := by kernel_rfl

/-- r10sequence -/
def vf_r10sequence : VFunc :=
  { m := 68, code := (.seq (.reg [⟨(some 4), none, (.op (.mov (.c (.int .i64 0))))⟩, ⟨(some 5), none, (.op (.mov (.c (.int .i64 0))))⟩])
    (.seq (.seq (.reg [⟨(some 8), none, (.op (.mov (.t 0)))⟩, ⟨(some 9), none, (.op (.mov (.t 1)))⟩, ⟨(some 10), none, (.op (.bin .add (.t 9) (.c (.int .i64 1))))⟩, ⟨(some 11), none, (.op (.idxS (.t 8) (.t 10)))⟩])
    (.block 0 (.seq (.seq (.reg [⟨(some 13), none, (.op (.bin .eql (.t 11) (.c (.int .u8 34))))⟩, ⟨(some 12), none, (.op (.mov (.t 13)))⟩])
    (.cond (.t 12) .skip (.seq (.reg [⟨(some 14), none, (.op (.bin .eql (.t 11) (.c (.int .u8 92))))⟩, ⟨(some 12), none, (.op (.mov (.t 14)))⟩])
    (.cond (.t 12) .skip (.reg [⟨(some 15), none, (.op (.bin .eql (.t 11) (.c (.int .u8 47))))⟩, ⟨(some 12), none, (.op (.mov (.t 15)))⟩])))))
    (.cond (.t 12) (.seq (.reg [⟨(some 16), none, (.op (.mov (.t 0)))⟩, ⟨(some 17), none, (.op (.mov (.t 1)))⟩, ⟨(some 18), none, (.op (.bin .add (.t 17) (.c (.int .i64 1))))⟩, ⟨(some 19), none, (.op (.idxS (.t 16) (.t 18)))⟩, ⟨(some 20), none, (.op (.cvI .i64 (.t 19)))⟩, ⟨(some 4), none, (.op (.mov (.t 20)))⟩, ⟨(some 5), none, (.op (.mov (.c (.int .i64 2))))⟩])
    .ret) (.seq (.reg [⟨(some 22), none, (.op (.bin .eql (.t 11) (.c (.int .u8 98))))⟩, ⟨(some 21), none, (.op (.mov (.t 22)))⟩])
    (.cond (.t 21) (.seq (.reg [⟨(some 4), none, (.op (.mov (.c (.int .i64 8))))⟩, ⟨(some 5), none, (.op (.mov (.c (.int .i64 2))))⟩])
    .ret) (.seq (.reg [⟨(some 24), none, (.op (.bin .eql (.t 11) (.c (.int .u8 102))))⟩, ⟨(some 23), none, (.op (.mov (.t 24)))⟩])
    (.cond (.t 23) (.seq (.reg [⟨(some 4), none, (.op (.mov (.c (.int .i64 12))))⟩, ⟨(some 5), none, (.op (.mov (.c (.int .i64 2))))⟩])
    .ret) (.seq (.reg [⟨(some 26), none, (.op (.bin .eql (.t 11) (.c (.int .u8 110))))⟩, ⟨(some 25), none, (.op (.mov (.t 26)))⟩])
    (.cond (.t 25) (.seq (.reg [⟨(some 4), none, (.op (.mov (.c (.int .i64 10))))⟩, ⟨(some 5), none, (.op (.mov (.c (.int .i64 2))))⟩])
    .ret) (.seq (.reg [⟨(some 28), none, (.op (.bin .eql (.t 11) (.c (.int .u8 114))))⟩, ⟨(some 27), none, (.op (.mov (.t 28)))⟩])
    (.cond (.t 27) (.seq (.reg [⟨(some 4), none, (.op (.mov (.c (.int .i64 13))))⟩, ⟨(some 5), none, (.op (.mov (.c (.int .i64 2))))⟩])
    .ret) (.seq (.reg [⟨(some 30), none, (.op (.bin .eql (.t 11) (.c (.int .u8 116))))⟩, ⟨(some 29), none, (.op (.mov (.t 30)))⟩])
    (.cond (.t 29) (.seq (.reg [⟨(some 4), none, (.op (.mov (.c (.int .i64 9))))⟩, ⟨(some 5), none, (.op (.mov (.c (.int .i64 2))))⟩])
    .ret) .skip))))))))))))))
    (.seq (.reg [⟨(some 31), none, (.op (.mov (.t 0)))⟩, ⟨(some 32), none, (.op (.mov (.t 1)))⟩, ⟨(some 33), none, (.call 69 [(.t 31), (.t 32)])⟩, ⟨(some 6), none, (.op (.mov (.t 33)))⟩])
    (.seq (.seq (.reg [⟨(some 34), none, (.op (.mov (.t 6)))⟩, ⟨(some 35), none, (.op (.bin .geq (.t 34) (.c (.int .i64 55296))))⟩, ⟨(some 36), none, (.op (.mov (.t 35)))⟩, ⟨(some 37), (some (36, true)), (.op (.mov (.t 6)))⟩, ⟨(some 38), (some (36, true)), (.op (.bin .leq (.t 37) (.c (.int .i64 56319))))⟩, ⟨(some 39), none, (.op (.pick (.t 36) (.t 38) (.c (.bool false))))⟩])
    (.cond (.t 39) (.seq (.reg [⟨(some 40), none, (.op (.mov (.t 0)))⟩, ⟨(some 41), none, (.op (.mov (.t 1)))⟩, ⟨(some 42), none, (.op (.bin .add (.t 41) (.c (.int .i64 6))))⟩, ⟨(some 43), none, (.call 69 [(.t 40), (.t 42)])⟩, ⟨(some 7), none, (.op (.mov (.t 43)))⟩])
    (.seq (.seq (.reg [⟨(some 44), none, (.op (.mov (.t 7)))⟩, ⟨(some 45), none, (.op (.bin .geq (.t 44) (.c (.int .i64 56320))))⟩, ⟨(some 46), none, (.op (.mov (.t 45)))⟩, ⟨(some 47), (some (46, true)), (.op (.mov (.t 7)))⟩, ⟨(some 48), (some (46, true)), (.op (.bin .leq (.t 47) (.c (.int .i64 57343))))⟩, ⟨(some 49), none, (.op (.pick (.t 46) (.t 48) (.c (.bool false))))⟩])
    (.cond (.t 49) (.seq (.reg [⟨(some 50), none, (.op (.mov (.t 6)))⟩, ⟨(some 51), none, (.op (.bin .sub (.t 50) (.c (.int .i64 55296))))⟩, ⟨(some 52), none, (.op (.bin .mul (.t 51) (.c (.int .i64 1024))))⟩, ⟨(some 53), none, (.op (.bin .add (.c (.int .i64 65536)) (.t 52)))⟩, ⟨(some 54), none, (.op (.mov (.t 7)))⟩, ⟨(some 55), none, (.op (.bin .add (.t 53) (.t 54)))⟩, ⟨(some 56), none, (.op (.bin .sub (.t 55) (.c (.int .i64 56320))))⟩, ⟨(some 4), none, (.op (.mov (.t 56)))⟩, ⟨(some 5), none, (.op (.mov (.c (.int .i64 12))))⟩])
    .ret) .skip))
    (.seq (.reg [⟨(some 4), none, (.op (.mov (.c (.int .i64 0))))⟩, ⟨(some 5), none, (.op (.mov (.c (.int .i64 0))))⟩])
    .ret))) .skip))
    (.seq (.seq (.reg [⟨(some 57), none, (.op (.mov (.t 6)))⟩, ⟨(some 58), none, (.op (.bin .lss (.t 57) (.c (.int .i64 0))))⟩, ⟨(some 59), none, (.op (.mov (.t 58)))⟩, ⟨(some 60), (some (59, false)), (.op (.mov (.t 6)))⟩, ⟨(some 61), (some (59, false)), (.op (.bin .geq (.t 60) (.c (.int .i64 56320))))⟩, ⟨(some 62), (some (59, false)), (.op (.mov (.t 61)))⟩, ⟨(some 63), (some (62, true)), (.op (.mov (.t 6)))⟩, ⟨(some 64), (some (62, true)), (.op (.bin .leq (.t 63) (.c (.int .i64 57343))))⟩, ⟨(some 65), (some (59, false)), (.op (.pick (.t 62) (.t 64) (.c (.bool false))))⟩, ⟨(some 66), none, (.op (.pick (.t 59) (.c (.bool true)) (.t 65)))⟩])
    (.cond (.t 66) (.seq (.reg [⟨(some 4), none, (.op (.mov (.c (.int .i64 0))))⟩, ⟨(some 5), none, (.op (.mov (.c (.int .i64 0))))⟩])
    .ret) .skip))
    (.seq (.reg [⟨(some 67), none, (.op (.mov (.t 6)))⟩, ⟨(some 4), none, (.op (.mov (.t 67)))⟩, ⟨(some 5), none, (.op (.mov (.c (.int .i64 6))))⟩])
    .ret)))))),
    res := [(.t 4), (.t 5)] }

theorem cf_r10sequence : cfunc Go.Proofs.Tryz.prog 53 = some vf_r10sequence := by kernel_rfl

/-- r10unit -/
def vf_r10unit : VFunc :=
  { m := 27, code := (.seq (.reg [⟨(some 4), none, (.op (.mov (.c (.int .i64 0))))⟩])
    (.seq (.seq (.reg [⟨(some 5), none, (.op (.mov (.t 0)))⟩, ⟨(some 6), none, (.op (.lenS (.t 5)))⟩, ⟨(some 7), none, (.op (.mov (.t 1)))⟩, ⟨(some 8), none, (.op (.bin .sub (.t 6) (.t 7)))⟩, ⟨(some 9), none, (.op (.bin .lss (.t 8) (.c (.int .i64 6))))⟩, ⟨(some 10), none, (.op (.mov (.t 9)))⟩, ⟨(some 11), (some (10, false)), (.op (.mov (.t 0)))⟩, ⟨(some 12), (some (10, false)), (.op (.mov (.t 1)))⟩, ⟨(some 13), (some (10, false)), (.op (.idxS (.t 11) (.t 12)))⟩, ⟨(some 14), (some (10, false)), (.op (.bin .neq (.t 13) (.c (.int .u8 92))))⟩, ⟨(some 15), none, (.op (.pick (.t 10) (.c (.bool true)) (.t 14)))⟩, ⟨(some 16), none, (.op (.mov (.t 15)))⟩, ⟨(some 17), (some (16, false)), (.op (.mov (.t 0)))⟩, ⟨(some 18), (some (16, false)), (.op (.mov (.t 1)))⟩, ⟨(some 19), (some (16, false)), (.op (.bin .add (.t 18) (.c (.int .i64 1))))⟩, ⟨(some 20), (some (16, false)), (.op (.idxS (.t 17) (.t 19)))⟩, ⟨(some 21), (some (16, false)), (.op (.bin .neq (.t 20) (.c (.int .u8 117))))⟩, ⟨(some 22), none, (.op (.pick (.t 16) (.c (.bool true)) (.t 21)))⟩])
    (.cond (.t 22) (.seq (.reg [⟨(some 4), none, (.op (.mov (.c (.int .i64 (-1)))))⟩])
    .ret) .skip))
    (.seq (.reg [⟨(some 23), none, (.op (.mov (.t 0)))⟩, ⟨(some 24), none, (.op (.mov (.t 1)))⟩, ⟨(some 25), none, (.op (.bin .add (.t 24) (.c (.int .i64 2))))⟩, ⟨(some 26), none, (.call 82 [(.t 23), (.t 25)])⟩, ⟨(some 4), none, (.op (.mov (.t 26)))⟩])
    .ret))),
    res := [(.t 4)] }

theorem cf_r10unit : cfunc Go.Proofs.Tryz.prog 69 = some vf_r10unit := by kernel_rfl

/-- r10hex -/
def vf_r10hex : VFunc :=
  { m := 64, code := (.seq (.reg [⟨(some 4), none, (.op (.mov (.c (.int .i64 0))))⟩])
    (.seq (.seq (.reg [⟨(some 8), none, (.op (.mov (.t 0)))⟩, ⟨(some 9), none, (.op (.lenS (.t 8)))⟩, ⟨(some 10), none, (.op (.mov (.t 1)))⟩, ⟨(some 11), none, (.op (.bin .sub (.t 9) (.t 10)))⟩, ⟨(some 12), none, (.op (.bin .lss (.t 11) (.c (.int .i64 4))))⟩])
    (.cond (.t 12) (.seq (.reg [⟨(some 4), none, (.op (.mov (.c (.int .i64 (-1)))))⟩])
    .ret) .skip))
    (.seq (.reg [⟨(some 5), none, (.op (.mov (.c (.int .i64 0))))⟩])
    (.seq (.seq (.reg [⟨(some 6), none, (.op (.mov (.c (.int .i64 0))))⟩])
    (.block 0 (.loop (.seq (.seq (.reg [⟨(some 13), none, (.op (.mov (.t 6)))⟩, ⟨(some 14), none, (.op (.bin .lss (.t 13) (.c (.int .i64 4))))⟩])
    (.cond (.t 14) .skip (.exit 0)))
    (.seq (.block 1 (.seq (.reg [⟨(some 17), none, (.op (.mov (.t 0)))⟩, ⟨(some 18), none, (.op (.mov (.t 1)))⟩, ⟨(some 19), none, (.op (.mov (.t 6)))⟩, ⟨(some 20), none, (.op (.bin .add (.t 18) (.t 19)))⟩, ⟨(some 21), none, (.op (.idxS (.t 17) (.t 20)))⟩, ⟨(some 7), none, (.op (.mov (.t 21)))⟩])
    (.block 2 (.seq (.reg [⟨(some 23), none, (.op (.mov (.t 7)))⟩, ⟨(some 24), none, (.op (.bin .geq (.t 23) (.c (.int .u8 48))))⟩, ⟨(some 25), none, (.op (.mov (.t 24)))⟩, ⟨(some 26), (some (25, true)), (.op (.mov (.t 7)))⟩, ⟨(some 27), (some (25, true)), (.op (.bin .leq (.t 26) (.c (.int .u8 57))))⟩, ⟨(some 28), none, (.op (.pick (.t 25) (.t 27) (.c (.bool false))))⟩, ⟨(some 22), none, (.op (.mov (.t 28)))⟩])
    (.cond (.t 22) (.reg [⟨(some 29), none, (.op (.mov (.t 5)))⟩, ⟨(some 30), none, (.op (.bin .mul (.t 29) (.c (.int .i64 16))))⟩, ⟨(some 31), none, (.op (.mov (.t 7)))⟩, ⟨(some 32), none, (.op (.bin .sub (.t 31) (.c (.int .u8 48))))⟩, ⟨(some 33), none, (.op (.cvI .i64 (.t 32)))⟩, ⟨(some 34), none, (.op (.bin .add (.t 30) (.t 33)))⟩, ⟨(some 5), none, (.op (.mov (.t 34)))⟩]) (.seq (.reg [⟨(some 36), none, (.op (.mov (.t 7)))⟩, ⟨(some 37), none, (.op (.bin .geq (.t 36) (.c (.int .u8 97))))⟩, ⟨(some 38), none, (.op (.mov (.t 37)))⟩, ⟨(some 39), (some (38, true)), (.op (.mov (.t 7)))⟩, ⟨(some 40), (some (38, true)), (.op (.bin .leq (.t 39) (.c (.int .u8 102))))⟩, ⟨(some 41), none, (.op (.pick (.t 38) (.t 40) (.c (.bool false))))⟩, ⟨(some 35), none, (.op (.mov (.t 41)))⟩])
    (.cond (.t 35) (.reg [⟨(some 42), none, (.op (.mov (.t 5)))⟩, ⟨(some 43), none, (.op (.bin .mul (.t 42) (.c (.int .i64 16))))⟩, ⟨(some 44), none, (.op (.mov (.t 7)))⟩, ⟨(some 45), none, (.op (.bin .sub (.t 44) (.c (.int .u8 97))))⟩, ⟨(some 46), none, (.op (.cvI .i64 (.t 45)))⟩, ⟨(some 47), none, (.op (.bin .add (.t 43) (.t 46)))⟩, ⟨(some 48), none, (.op (.bin .add (.t 47) (.c (.int .i64 10))))⟩, ⟨(some 5), none, (.op (.mov (.t 48)))⟩]) (.seq (.reg [⟨(some 50), none, (.op (.mov (.t 7)))⟩, ⟨(some 51), none, (.op (.bin .geq (.t 50) (.c (.int .u8 65))))⟩, ⟨(some 52), none, (.op (.mov (.t 51)))⟩, ⟨(some 53), (some (52, true)), (.op (.mov (.t 7)))⟩, ⟨(some 54), (some (52, true)), (.op (.bin .leq (.t 53) (.c (.int .u8 70))))⟩, ⟨(some 55), none, (.op (.pick (.t 52) (.t 54) (.c (.bool false))))⟩, ⟨(some 49), none, (.op (.mov (.t 55)))⟩])
    (.cond (.t 49) (.reg [⟨(some 56), none, (.op (.mov (.t 5)))⟩, ⟨(some 57), none, (.op (.bin .mul (.t 56) (.c (.int .i64 16))))⟩, ⟨(some 58), none, (.op (.mov (.t 7)))⟩, ⟨(some 59), none, (.op (.bin .sub (.t 58) (.c (.int .u8 65))))⟩, ⟨(some 60), none, (.op (.cvI .i64 (.t 59)))⟩, ⟨(some 61), none, (.op (.bin .add (.t 57) (.t 60)))⟩, ⟨(some 62), none, (.op (.bin .add (.t 61) (.c (.int .i64 10))))⟩, ⟨(some 5), none, (.op (.mov (.t 62)))⟩]) (.seq (.reg [⟨(some 4), none, (.op (.mov (.c (.int .i64 (-1)))))⟩])
    .ret))))))))))
    (.reg [⟨(some 15), none, (.op (.mov (.t 6)))⟩, ⟨(some 16), none, (.op (.bin .add (.t 15) (.c (.int .i64 1))))⟩, ⟨(some 6), none, (.op (.mov (.t 16)))⟩]))))))
    (.seq (.reg [⟨(some 63), none, (.op (.mov (.t 5)))⟩, ⟨(some 4), none, (.op (.mov (.t 63)))⟩])
    .ret))))),
    res := [(.t 4)] }

theorem cf_r10hex : cfunc Go.Proofs.Tryz.prog 82 = some vf_r10hex := by kernel_rfl

/-- r11spaces -/
def vf_r11spaces : VFunc :=
  { m := 18, code := (.seq (.reg [⟨(some 4), none, (.op (.mov (.c (.int .i64 0))))⟩])
    (.seq (.block 0 (.loop (.seq (.seq (.reg [⟨(some 5), none, (.op (.mov (.t 1)))⟩, ⟨(some 6), none, (.op (.mov (.t 0)))⟩, ⟨(some 7), none, (.op (.lenS (.t 6)))⟩, ⟨(some 8), none, (.op (.bin .lss (.t 5) (.t 7)))⟩, ⟨(some 9), none, (.op (.mov (.t 8)))⟩, ⟨(some 10), (some (9, true)), (.op (.mov (.t 0)))⟩, ⟨(some 11), (some (9, true)), (.op (.mov (.t 1)))⟩, ⟨(some 12), (some (9, true)), (.op (.idxS (.t 10) (.t 11)))⟩, ⟨(some 13), (some (9, true)), (.call 43 [(.t 12)])⟩, ⟨(some 14), none, (.op (.pick (.t 9) (.t 13) (.c (.bool false))))⟩])
    (.cond (.t 14) .skip (.exit 0)))
    (.block 1 (.reg [⟨(some 15), none, (.op (.mov (.t 1)))⟩, ⟨(some 16), none, (.op (.bin .add (.t 15) (.c (.int .i64 1))))⟩, ⟨(some 1), none, (.op (.mov (.t 16)))⟩])))))
    (.seq (.reg [⟨(some 17), none, (.op (.mov (.t 1)))⟩, ⟨(some 4), none, (.op (.mov (.t 17)))⟩])
    .ret))),
    res := [(.t 4)] }

theorem cf_r11spaces : cfunc Go.Proofs.Tryz.prog 20 = some vf_r11spaces := by kernel_rfl

/-- r11numeric -/
def vf_r11numeric : VFunc :=
  { m := 29, code := (.seq (.reg [⟨(some 2), none, (.op (.mov (.c (.bool false))))⟩])
    (.seq (.reg [⟨(some 3), none, (.op (.mov (.t 0)))⟩, ⟨(some 4), none, (.op (.bin .geq (.t 3) (.c (.int .u8 48))))⟩, ⟨(some 5), none, (.op (.mov (.t 4)))⟩, ⟨(some 6), (some (5, true)), (.op (.mov (.t 0)))⟩, ⟨(some 7), (some (5, true)), (.op (.bin .leq (.t 6) (.c (.int .u8 57))))⟩, ⟨(some 8), none, (.op (.pick (.t 5) (.t 7) (.c (.bool false))))⟩, ⟨(some 9), none, (.op (.mov (.t 8)))⟩, ⟨(some 10), (some (9, false)), (.op (.mov (.t 0)))⟩, ⟨(some 11), (some (9, false)), (.op (.bin .eql (.t 10) (.c (.int .u8 43))))⟩, ⟨(some 12), none, (.op (.pick (.t 9) (.c (.bool true)) (.t 11)))⟩, ⟨(some 13), none, (.op (.mov (.t 12)))⟩, ⟨(some 14), (some (13, false)), (.op (.mov (.t 0)))⟩, ⟨(some 15), (some (13, false)), (.op (.bin .eql (.t 14) (.c (.int .u8 45))))⟩, ⟨(some 16), none, (.op (.pick (.t 13) (.c (.bool true)) (.t 15)))⟩, ⟨(some 17), none, (.op (.mov (.t 16)))⟩, ⟨(some 18), (some (17, false)), (.op (.mov (.t 0)))⟩, ⟨(some 19), (some (17, false)), (.op (.bin .eql (.t 18) (.c (.int .u8 46))))⟩, ⟨(some 20), none, (.op (.pick (.t 17) (.c (.bool true)) (.t 19)))⟩, ⟨(some 21), none, (.op (.mov (.t 20)))⟩, ⟨(some 22), (some (21, false)), (.op (.mov (.t 0)))⟩, ⟨(some 23), (some (21, false)), (.op (.bin .eql (.t 22) (.c (.int .u8 101))))⟩, ⟨(some 24), none, (.op (.pick (.t 21) (.c (.bool true)) (.t 23)))⟩, ⟨(some 25), none, (.op (.mov (.t 24)))⟩, ⟨(some 26), (some (25, false)), (.op (.mov (.t 0)))⟩, ⟨(some 27), (some (25, false)), (.op (.bin .eql (.t 26) (.c (.int .u8 69))))⟩, ⟨(some 28), none, (.op (.pick (.t 25) (.c (.bool true)) (.t 27)))⟩, ⟨(some 2), none, (.op (.mov (.t 28)))⟩])
    .ret)),
    res := [(.t 2)] }

theorem cf_r11numeric : cfunc Go.Proofs.Tryz.prog 41 = some vf_r11numeric := by kernel_rfl

/-- r11wrong -/
def vf_r11wrong : VFunc :=
  { m := 14, code := (.seq (.reg [⟨(some 4), none, (.op (.alloc 53 [(.int .i64 0), (.bool false), (.int .i64 0), (.str []), (.slc false [] .no), (.slc false [] .no), (.int .i64 0), (.int .i64 0), (.int .i64 0)]))⟩])
    (.seq (.seq (.reg [⟨(some 5), none, (.op (.mov (.t 1)))⟩, ⟨(some 6), none, (.op (.mov (.t 0)))⟩, ⟨(some 7), none, (.op (.lenS (.t 6)))⟩, ⟨(some 8), none, (.op (.bin .geq (.t 5) (.t 7)))⟩])
    (.cond (.t 8) (.seq (.reg [⟨(some 9), none, (.op (.mov (.t 0)))⟩, ⟨(some 10), none, (.op (.lenS (.t 9)))⟩, ⟨(some 11), none, (.op (.build [(.int .i64 0), (.bool false), (.int .i64 0), (.str []), (.slc false [] .no), (.slc false [] .no), (.int .i64 0), (.int .i64 0), (.int .i64 0)] [((7, 1), (.t 10)), ((8, 1), (.c (.int .i64 8)))]))⟩, ⟨none, none, (.op (.store 9 (.t 4) (.t 11)))⟩])
    .ret) .skip))
    (.seq (.reg [⟨(some 12), none, (.op (.mov (.t 1)))⟩, ⟨(some 13), none, (.op (.build [(.int .i64 0), (.bool false), (.int .i64 0), (.str []), (.slc false [] .no), (.slc false [] .no), (.int .i64 0), (.int .i64 0), (.int .i64 0)] [((7, 1), (.t 12)), ((8, 1), (.c (.int .i64 7)))]))⟩, ⟨none, none, (.op (.store 9 (.t 4) (.t 13)))⟩])
    .ret))),
    res := [(.a 9 4)] }

theorem cf_r11wrong : cfunc Go.Proofs.Tryz.prog 36 = some vf_r11wrong := by kernel_rfl

/-- r11word -/
def vf_r11word : VFunc :=
  { m := 25, code := (.seq (.reg [⟨(some 7), none, (.op (.box 26 (.t 3)))⟩, ⟨(some 8), none, (.op (.alloc 53 [(.int .i64 0), (.bool false), (.int .i64 0), (.str []), (.slc false [] .no), (.slc false [] .no), (.int .i64 0), (.int .i64 0), (.int .i64 0)]))⟩])
    (.seq (.seq (.reg [⟨(some 9), none, (.op (.mov (.t 0)))⟩, ⟨(some 10), none, (.op (.mov (.t 1)))⟩, ⟨(some 11), none, (.op (.mov (.t 2)))⟩, ⟨(some 12), none, (.call 18 [(.t 9), (.t 10), (.t 11)])⟩, ⟨(some 13), none, (.op (.un .not (.t 12)))⟩])
    (.cond (.t 13) (.seq (.reg [⟨(some 14), none, (.op (.mov (.t 0)))⟩, ⟨(some 15), none, (.op (.mov (.t 1)))⟩, ⟨(some 16), none, (.call 36 [(.t 14), (.t 15)])⟩, ⟨none, none, (.op (.store 9 (.t 8) (.t 16)))⟩])
    .ret) .skip))
    (.seq (.reg [⟨(some 17), none, (.op (.mov (.t 1)))⟩, ⟨(some 18), none, (.op (.fadr 6 (.t 7)))⟩, ⟨none, none, (.op (.store 1 (.t 18) (.t 17)))⟩])
    (.seq (.reg [⟨(some 19), none, (.op (.loadA 7 (.t 7)))⟩, ⟨(some 20), none, (.op (.mov (.t 1)))⟩, ⟨(some 21), none, (.op (.mov (.t 2)))⟩, ⟨(some 22), none, (.op (.lenS (.t 21)))⟩, ⟨(some 23), none, (.op (.bin .add (.t 20) (.t 22)))⟩, ⟨(some 24), none, (.op (.build [(.int .i64 0), (.bool false), (.int .i64 0), (.str []), (.slc false [] .no), (.slc false [] .no), (.int .i64 0), (.int .i64 0), (.int .i64 0)] [((0, 7), (.t 19)), ((7, 1), (.t 23))]))⟩, ⟨none, none, (.op (.store 9 (.t 8) (.t 24)))⟩])
    .ret)))),
    res := [(.a 9 8)] }

theorem cf_r11word : cfunc Go.Proofs.Tryz.prog 38 = some vf_r11word := by kernel_rfl

/-- r11begins -/
def vf_r11begins : VFunc :=
  { m := 16, code := (.seq (.reg [⟨(some 2), none, (.op (.mov (.c (.bool false))))⟩])
    (.seq (.reg [⟨(some 3), none, (.op (.mov (.c (.str [110, 116, 102, 34, 45, 48, 49, 50, 51, 52, 53, 54, 55, 56, 57, 91, 123]))))⟩])
    (.seq (.seq (.reg [⟨(some 4), none, (.op (.mov (.c (.int .i64 0))))⟩])
    (.block 0 (.loop (.seq (.seq (.reg [⟨(some 5), none, (.op (.mov (.t 4)))⟩, ⟨(some 6), none, (.op (.mov (.t 3)))⟩, ⟨(some 7), none, (.op (.lenS (.t 6)))⟩, ⟨(some 8), none, (.op (.bin .lss (.t 5) (.t 7)))⟩])
    (.cond (.t 8) .skip (.exit 0)))
    (.seq (.block 1 (.seq (.reg [⟨(some 11), none, (.op (.mov (.t 3)))⟩, ⟨(some 12), none, (.op (.mov (.t 4)))⟩, ⟨(some 13), none, (.op (.idxS (.t 11) (.t 12)))⟩, ⟨(some 14), none, (.op (.mov (.t 0)))⟩, ⟨(some 15), none, (.op (.bin .eql (.t 13) (.t 14)))⟩])
    (.cond (.t 15) (.seq (.reg [⟨(some 2), none, (.op (.mov (.c (.bool true))))⟩])
    .ret) .skip)))
    (.reg [⟨(some 9), none, (.op (.mov (.t 4)))⟩, ⟨(some 10), none, (.op (.bin .add (.t 9) (.c (.int .i64 1))))⟩, ⟨(some 4), none, (.op (.mov (.t 10)))⟩]))))))
    (.seq (.reg [⟨(some 2), none, (.op (.mov (.c (.bool false))))⟩])
    .ret)))),
    res := [(.t 2)] }

theorem cf_r11begins : cfunc Go.Proofs.Tryz.prog 37 = some vf_r11begins := by kernel_rfl

/-- r11value -/
def vf_r11value : VFunc :=
  { m := 129, code := (.seq (.reg [⟨(some 6), none, (.op (.alloc 53 [(.int .i64 0), (.bool false), (.int .i64 0), (.str []), (.slc false [] .no), (.slc false [] .no), (.int .i64 0), (.int .i64 0), (.int .i64 0)]))⟩])
    (.seq (.reg [⟨(some 13), none, (.op (.mov (.t 0)))⟩, ⟨(some 14), none, (.op (.mov (.t 1)))⟩, ⟨(some 15), none, (.call 20 [(.t 13), (.t 14)])⟩, ⟨(some 1), none, (.op (.mov (.t 15)))⟩])
    (.seq (.seq (.reg [⟨(some 16), none, (.op (.mov (.t 1)))⟩, ⟨(some 17), none, (.op (.mov (.t 0)))⟩, ⟨(some 18), none, (.op (.lenS (.t 17)))⟩, ⟨(some 19), none, (.op (.bin .geq (.t 16) (.t 18)))⟩])
    (.cond (.t 19) (.seq (.reg [⟨(some 20), none, (.op (.mov (.t 0)))⟩, ⟨(some 21), none, (.op (.mov (.t 1)))⟩, ⟨(some 22), none, (.call 36 [(.t 20), (.t 21)])⟩, ⟨none, none, (.op (.store 9 (.t 6) (.t 22)))⟩])
    .ret) .skip))
    (.seq (.seq (.reg [⟨(some 23), none, (.op (.mov (.t 2)))⟩, ⟨(some 24), none, (.op (.bin .gtr (.t 23) (.c (.int .i64 100))))⟩, ⟨(some 25), none, (.op (.mov (.t 24)))⟩, ⟨(some 26), (some (25, true)), (.op (.mov (.t 0)))⟩, ⟨(some 27), (some (25, true)), (.op (.mov (.t 1)))⟩, ⟨(some 28), (some (25, true)), (.op (.idxS (.t 26) (.t 27)))⟩, ⟨(some 29), (some (25, true)), (.call 37 [(.t 28)])⟩, ⟨(some 30), none, (.op (.pick (.t 25) (.t 29) (.c (.bool false))))⟩])
    (.cond (.t 30) (.seq (.reg [⟨(some 31), none, (.op (.mov (.t 1)))⟩, ⟨(some 32), none, (.op (.build [(.int .i64 0), (.bool false), (.int .i64 0), (.str []), (.slc false [] .no), (.slc false [] .no), (.int .i64 0), (.int .i64 0), (.int .i64 0)] [((7, 1), (.t 31)), ((8, 1), (.c (.int .i64 9)))]))⟩, ⟨none, none, (.op (.store 9 (.t 6) (.t 32)))⟩])
    .ret) .skip))
    (.seq (.seq (.reg [⟨(some 33), none, (.op (.mov (.t 0)))⟩, ⟨(some 34), none, (.op (.mov (.t 1)))⟩, ⟨(some 35), none, (.op (.idxS (.t 33) (.t 34)))⟩])
    (.block 0 (.seq (.reg [⟨(some 37), none, (.op (.bin .eql (.t 35) (.c (.int .u8 110))))⟩, ⟨(some 36), none, (.op (.mov (.t 37)))⟩])
    (.cond (.t 36) (.seq (.reg [⟨(some 38), none, (.op (.mov (.t 0)))⟩, ⟨(some 39), none, (.op (.mov (.t 1)))⟩, ⟨(some 40), none, (.op (.build [(.int .i64 0), (.bool false), (.int .i64 0), (.str []), (.slc false [] .no), (.slc false [] .no), (.int .i64 0)] []))⟩, ⟨(some 41), none, (.call 38 [(.t 38), (.t 39), (.c (.str [110, 117, 108, 108])), (.t 40)])⟩, ⟨none, none, (.op (.store 9 (.t 6) (.t 41)))⟩])
    .ret) (.seq (.reg [⟨(some 43), none, (.op (.bin .eql (.t 35) (.c (.int .u8 116))))⟩, ⟨(some 42), none, (.op (.mov (.t 43)))⟩])
    (.cond (.t 42) (.seq (.reg [⟨(some 44), none, (.op (.mov (.t 0)))⟩, ⟨(some 45), none, (.op (.mov (.t 1)))⟩, ⟨(some 46), none, (.op (.build [(.int .i64 0), (.bool false), (.int .i64 0), (.str []), (.slc false [] .no), (.slc false [] .no), (.int .i64 0)] [((0, 1), (.c (.int .i64 1))), ((1, 1), (.c (.bool true)))]))⟩, ⟨(some 47), none, (.call 38 [(.t 44), (.t 45), (.c (.str [116, 114, 117, 101])), (.t 46)])⟩, ⟨none, none, (.op (.store 9 (.t 6) (.t 47)))⟩])
    .ret) (.seq (.reg [⟨(some 49), none, (.op (.bin .eql (.t 35) (.c (.int .u8 102))))⟩, ⟨(some 48), none, (.op (.mov (.t 49)))⟩])
    (.cond (.t 48) (.seq (.reg [⟨(some 50), none, (.op (.mov (.t 0)))⟩, ⟨(some 51), none, (.op (.mov (.t 1)))⟩, ⟨(some 52), none, (.op (.build [(.int .i64 0), (.bool false), (.int .i64 0), (.str []), (.slc false [] .no), (.slc false [] .no), (.int .i64 0)] [((0, 1), (.c (.int .i64 1)))]))⟩, ⟨(some 53), none, (.call 38 [(.t 50), (.t 51), (.c (.str [102, 97, 108, 115, 101])), (.t 52)])⟩, ⟨none, none, (.op (.store 9 (.t 6) (.t 53)))⟩])
    .ret) (.seq (.reg [⟨(some 55), none, (.op (.bin .eql (.t 35) (.c (.int .u8 34))))⟩, ⟨(some 54), none, (.op (.mov (.t 55)))⟩])
    (.cond (.t 54) (.seq (.reg [⟨(some 57), none, (.op (.mov (.t 0)))⟩, ⟨(some 58), none, (.op (.mov (.t 1)))⟩, ⟨(some 59), none, (.call 39 [(.t 57), (.t 58)])⟩, ⟨(some 56), none, (.op (.mov (.t 59)))⟩, ⟨(some 60), none, (.op (.ext (.t 56) 0))⟩, ⟨(some 61), none, (.op (.ext (.t 56) 1))⟩, ⟨(some 62), none, (.op (.ext (.t 56) 2))⟩, ⟨(some 7), none, (.op (.mov (.t 60)))⟩, ⟨(some 8), none, (.op (.mov (.t 61)))⟩, ⟨(some 9), none, (.op (.mov (.t 62)))⟩])
    (.seq (.seq (.reg [⟨(some 63), none, (.op (.mov (.t 9)))⟩, ⟨(some 64), none, (.op (.bin .neq (.t 63) (.c (.int .i64 0))))⟩])
    (.cond (.t 64) (.seq (.reg [⟨(some 65), none, (.op (.mov (.t 8)))⟩, ⟨(some 66), none, (.op (.mov (.t 9)))⟩, ⟨(some 67), none, (.op (.build [(.int .i64 0), (.bool false), (.int .i64 0), (.str []), (.slc false [] .no), (.slc false [] .no), (.int .i64 0), (.int .i64 0), (.int .i64 0)] [((7, 1), (.t 65)), ((8, 1), (.t 66))]))⟩, ⟨none, none, (.op (.store 9 (.t 6) (.t 67)))⟩])
    .ret) .skip))
    (.seq (.reg [⟨(some 68), none, (.op (.mov (.t 7)))⟩, ⟨(some 69), none, (.op (.mov (.t 1)))⟩, ⟨(some 70), none, (.op (.build [(.int .i64 0), (.bool false), (.int .i64 0), (.str []), (.slc false [] .no), (.slc false [] .no), (.int .i64 0)] [((0, 1), (.c (.int .i64 3))), ((3, 1), (.t 68)), ((6, 1), (.t 69))]))⟩, ⟨(some 71), none, (.op (.mov (.t 8)))⟩, ⟨(some 72), none, (.op (.build [(.int .i64 0), (.bool false), (.int .i64 0), (.str []), (.slc false [] .no), (.slc false [] .no), (.int .i64 0), (.int .i64 0), (.int .i64 0)] [((0, 7), (.t 70)), ((7, 1), (.t 71))]))⟩, ⟨none, none, (.op (.store 9 (.t 6) (.t 72)))⟩])
    .ret))) (.seq (.seq (.reg [⟨(some 74), none, (.op (.bin .eql (.t 35) (.c (.int .u8 91))))⟩, ⟨(some 73), none, (.op (.mov (.t 74)))⟩])
    (.cond (.t 73) .skip (.reg [⟨(some 75), none, (.op (.bin .eql (.t 35) (.c (.int .u8 123))))⟩, ⟨(some 73), none, (.op (.mov (.t 75)))⟩])))
    (.cond (.t 73) (.seq (.reg [⟨(some 76), none, (.op (.mov (.t 0)))⟩, ⟨(some 77), none, (.op (.mov (.t 1)))⟩, ⟨(some 78), none, (.op (.mov (.t 2)))⟩, ⟨(some 79), none, (.call 40 [(.t 76), (.t 77), (.t 78)])⟩, ⟨none, none, (.op (.store 9 (.t 6) (.t 79)))⟩])
    .ret) .skip))))))))))))
    (.seq (.seq (.reg [⟨(some 80), none, (.op (.mov (.t 0)))⟩, ⟨(some 81), none, (.op (.mov (.t 1)))⟩, ⟨(some 82), none, (.op (.idxS (.t 80) (.t 81)))⟩, ⟨(some 83), none, (.op (.bin .neq (.t 82) (.c (.int .u8 45))))⟩, ⟨(some 84), none, (.op (.mov (.t 83)))⟩, ⟨(some 85), (some (84, true)), (.op (.mov (.t 0)))⟩, ⟨(some 86), (some (84, true)), (.op (.mov (.t 1)))⟩, ⟨(some 87), (some (84, true)), (.op (.idxS (.t 85) (.t 86)))⟩, ⟨(some 88), (some (84, true)), (.op (.bin .lss (.t 87) (.c (.int .u8 48))))⟩, ⟨(some 89), (some (84, true)), (.op (.mov (.t 88)))⟩, ⟨(some 90), (some (89, false)), (.op (.mov (.t 0)))⟩, ⟨(some 91), (some (89, false)), (.op (.mov (.t 1)))⟩, ⟨(some 92), (some (89, false)), (.op (.idxS (.t 90) (.t 91)))⟩, ⟨(some 93), (some (89, false)), (.op (.bin .gtr (.t 92) (.c (.int .u8 57))))⟩, ⟨(some 94), (some (84, true)), (.op (.pick (.t 89) (.c (.bool true)) (.t 93)))⟩, ⟨(some 95), none, (.op (.pick (.t 84) (.t 94) (.c (.bool false))))⟩])
    (.cond (.t 95) (.seq (.reg [⟨(some 96), none, (.op (.mov (.t 0)))⟩, ⟨(some 97), none, (.op (.mov (.t 1)))⟩, ⟨(some 98), none, (.call 36 [(.t 96), (.t 97)])⟩, ⟨none, none, (.op (.store 9 (.t 6) (.t 98)))⟩])
    .ret) .skip))
    (.seq (.reg [⟨(some 99), none, (.op (.mov (.t 1)))⟩, ⟨(some 10), none, (.op (.mov (.t 99)))⟩])
    (.seq (.block 1 (.loop (.seq (.seq (.reg [⟨(some 100), none, (.op (.mov (.t 10)))⟩, ⟨(some 101), none, (.op (.mov (.t 0)))⟩, ⟨(some 102), none, (.op (.lenS (.t 101)))⟩, ⟨(some 103), none, (.op (.bin .lss (.t 100) (.t 102)))⟩, ⟨(some 104), none, (.op (.mov (.t 103)))⟩, ⟨(some 105), (some (104, true)), (.op (.mov (.t 0)))⟩, ⟨(some 106), (some (104, true)), (.op (.mov (.t 10)))⟩, ⟨(some 107), (some (104, true)), (.op (.idxS (.t 105) (.t 106)))⟩, ⟨(some 108), (some (104, true)), (.call 41 [(.t 107)])⟩, ⟨(some 109), none, (.op (.pick (.t 104) (.t 108) (.c (.bool false))))⟩])
    (.cond (.t 109) .skip (.exit 1)))
    (.block 2 (.reg [⟨(some 110), none, (.op (.mov (.t 10)))⟩, ⟨(some 111), none, (.op (.bin .add (.t 110) (.c (.int .i64 1))))⟩, ⟨(some 10), none, (.op (.mov (.t 111)))⟩])))))
    (.seq (.reg [⟨(some 113), none, (.op (.mov (.t 0)))⟩, ⟨(some 114), none, (.op (.mov (.t 1)))⟩, ⟨(some 115), none, (.op (.mov (.t 10)))⟩, ⟨(some 116), none, (.op (.slS (.t 113) (some (.t 114)) (some (.t 115))))⟩, ⟨(some 117), none, (.call 42 [(.t 116)])⟩, ⟨(some 112), none, (.op (.mov (.t 117)))⟩, ⟨(some 118), none, (.op (.ext (.t 112) 0))⟩, ⟨(some 119), none, (.op (.ext (.t 112) 1))⟩, ⟨(some 11), none, (.op (.mov (.t 118)))⟩, ⟨(some 12), none, (.op (.mov (.t 119)))⟩])
    (.seq (.seq (.reg [⟨(some 120), none, (.op (.mov (.t 12)))⟩, ⟨(some 121), none, (.op (.un .not (.t 120)))⟩])
    (.cond (.t 121) (.seq (.reg [⟨(some 122), none, (.op (.mov (.t 1)))⟩, ⟨(some 123), none, (.op (.build [(.int .i64 0), (.bool false), (.int .i64 0), (.str []), (.slc false [] .no), (.slc false [] .no), (.int .i64 0), (.int .i64 0), (.int .i64 0)] [((7, 1), (.t 122)), ((8, 1), (.c (.int .i64 15)))]))⟩, ⟨none, none, (.op (.store 9 (.t 6) (.t 123)))⟩])
    .ret) .skip))
    (.seq (.reg [⟨(some 124), none, (.op (.mov (.t 11)))⟩, ⟨(some 125), none, (.op (.mov (.t 1)))⟩, ⟨(some 126), none, (.op (.build [(.int .i64 0), (.bool false), (.int .i64 0), (.str []), (.slc false [] .no), (.slc false [] .no), (.int .i64 0)] [((0, 1), (.c (.int .i64 2))), ((2, 1), (.t 124)), ((6, 1), (.t 125))]))⟩, ⟨(some 127), none, (.op (.mov (.t 10)))⟩, ⟨(some 128), none, (.op (.build [(.int .i64 0), (.bool false), (.int .i64 0), (.str []), (.slc false [] .no), (.slc false [] .no), (.int .i64 0), (.int .i64 0), (.int .i64 0)] [((0, 7), (.t 126)), ((7, 1), (.t 127))]))⟩, ⟨none, none, (.op (.store 9 (.t 6) (.t 128)))⟩])
    .ret))))))))))),
    res := [(.a 9 6)] }

theorem cf_r11value : cfunc Go.Proofs.Tryz.prog 19 = some vf_r11value := by kernel_rfl

/-- r11key -/
def vf_r11key : VFunc :=
  { m := 76, code := (.seq (.reg [⟨(some 5), none, (.op (.box 26 (.t 2)))⟩, ⟨(some 6), none, (.op (.mov (.c (.str []))))⟩, ⟨(some 7), none, (.op (.mov (.c (.int .i64 0))))⟩, ⟨(some 8), none, (.op (.mov (.c (.int .i64 0))))⟩])
    (.seq (.seq (.reg [⟨(some 15), none, (.op (.mov (.t 1)))⟩, ⟨(some 16), none, (.op (.mov (.t 0)))⟩, ⟨(some 17), none, (.op (.lenS (.t 16)))⟩, ⟨(some 18), none, (.op (.bin .geq (.t 15) (.t 17)))⟩, ⟨(some 19), none, (.op (.mov (.t 18)))⟩, ⟨(some 20), (some (19, false)), (.op (.mov (.t 0)))⟩, ⟨(some 21), (some (19, false)), (.op (.mov (.t 1)))⟩, ⟨(some 22), (some (19, false)), (.op (.idxS (.t 20) (.t 21)))⟩, ⟨(some 23), (some (19, false)), (.op (.bin .neq (.t 22) (.c (.int .u8 34))))⟩, ⟨(some 24), none, (.op (.pick (.t 19) (.c (.bool true)) (.t 23)))⟩])
    (.cond (.t 24) (.seq (.reg [⟨(some 25), none, (.op (.mov (.t 0)))⟩, ⟨(some 26), none, (.op (.mov (.t 1)))⟩, ⟨(some 27), none, (.call 36 [(.t 25), (.t 26)])⟩, ⟨(some 9), none, (.op (.alloc 53 [(.int .i64 0), (.bool false), (.int .i64 0), (.str []), (.slc false [] .no), (.slc false [] .no), (.int .i64 0), (.int .i64 0), (.int .i64 0)]))⟩, ⟨none, none, (.op (.store 9 (.t 9) (.t 27)))⟩])
    (.seq (.draw [⟨⟨(some 28), none, (.op (.fadr 7 (.t 9)))⟩, none⟩, ⟨⟨(some 29), none, (.op (.loadL (.t 28)))⟩, none⟩, ⟨⟨(some 30), none, (.op (.fadr 8 (.t 9)))⟩, none⟩, ⟨⟨(some 31), none, (.op (.loadL (.t 30)))⟩, none⟩, ⟨⟨(some 6), none, (.op (.mov (.c (.str []))))⟩, none⟩, ⟨⟨(some 7), none, (.op (.mov (.t 29)))⟩, none⟩, ⟨⟨(some 8), none, (.op (.mov (.t 31)))⟩, none⟩])
    .ret)) .skip))
    (.seq (.reg [⟨(some 33), none, (.op (.mov (.t 0)))⟩, ⟨(some 34), none, (.op (.mov (.t 1)))⟩, ⟨(some 35), none, (.call 39 [(.t 33), (.t 34)])⟩, ⟨(some 32), none, (.op (.mov (.t 35)))⟩, ⟨(some 36), none, (.op (.ext (.t 32) 0))⟩, ⟨(some 37), none, (.op (.ext (.t 32) 1))⟩, ⟨(some 38), none, (.op (.ext (.t 32) 2))⟩, ⟨(some 10), none, (.op (.mov (.t 36)))⟩, ⟨(some 11), none, (.op (.mov (.t 37)))⟩, ⟨(some 12), none, (.op (.mov (.t 38)))⟩])
    (.seq (.seq (.reg [⟨(some 39), none, (.op (.mov (.t 12)))⟩, ⟨(some 40), none, (.op (.bin .neq (.t 39) (.c (.int .i64 0))))⟩])
    (.cond (.t 40) (.seq (.reg [⟨(some 41), none, (.op (.mov (.t 11)))⟩, ⟨(some 42), none, (.op (.mov (.t 12)))⟩, ⟨(some 6), none, (.op (.mov (.c (.str []))))⟩, ⟨(some 7), none, (.op (.mov (.t 41)))⟩, ⟨(some 8), none, (.op (.mov (.t 42)))⟩])
    .ret) .skip))
    (.seq (.seq (.reg [⟨(some 13), none, (.op (.mov (.c (.int .i64 0))))⟩])
    (.block 0 (.loop (.seq (.seq (.reg [⟨(some 43), none, (.op (.mov (.t 13)))⟩, ⟨(some 44), none, (.op (.fadr 5 (.t 5)))⟩, ⟨(some 45), none, (.op (.loadL (.t 44)))⟩, ⟨(some 46), none, (.op (.lenV (.t 45)))⟩, ⟨(some 47), none, (.op (.bin .lss (.t 43) (.t 46)))⟩])
    (.cond (.t 47) .skip (.exit 0)))
    (.seq (.block 1 (.seq (.reg [⟨(some 50), none, (.op (.fadr 5 (.t 5)))⟩, ⟨(some 51), none, (.op (.loadL (.t 50)))⟩, ⟨(some 52), none, (.op (.mov (.t 13)))⟩, ⟨(some 53), none, (.op (.iadV 9 (.t 51) (.t 52)))⟩, ⟨(some 54), none, (.op (.fadr 0 (.t 53)))⟩, ⟨(some 55), none, (.op (.loadL (.t 54)))⟩, ⟨(some 56), none, (.op (.mov (.t 10)))⟩, ⟨(some 57), none, (.op (.bin .eql (.t 55) (.t 56)))⟩])
    (.cond (.t 57) (.seq (.reg [⟨(some 58), none, (.op (.mov (.t 1)))⟩, ⟨(some 6), none, (.op (.mov (.c (.str []))))⟩, ⟨(some 7), none, (.op (.mov (.t 58)))⟩, ⟨(some 8), none, (.op (.mov (.c (.int .i64 10))))⟩])
    .ret) .skip)))
    (.reg [⟨(some 48), none, (.op (.mov (.t 13)))⟩, ⟨(some 49), none, (.op (.bin .add (.t 48) (.c (.int .i64 1))))⟩, ⟨(some 13), none, (.op (.mov (.t 49)))⟩]))))))
    (.seq (.reg [⟨(some 59), none, (.op (.mov (.t 0)))⟩, ⟨(some 60), none, (.op (.mov (.t 11)))⟩, ⟨(some 61), none, (.call 20 [(.t 59), (.t 60)])⟩, ⟨(some 11), none, (.op (.mov (.t 61)))⟩])
    (.seq (.seq (.reg [⟨(some 62), none, (.op (.mov (.t 0)))⟩, ⟨(some 63), none, (.op (.mov (.t 11)))⟩, ⟨(some 64), none, (.call 18 [(.t 62), (.t 63), (.c (.str [58]))])⟩, ⟨(some 65), none, (.op (.un .not (.t 64)))⟩])
    (.cond (.t 65) (.seq (.reg [⟨(some 66), none, (.op (.mov (.t 0)))⟩, ⟨(some 67), none, (.op (.mov (.t 11)))⟩, ⟨(some 68), none, (.call 36 [(.t 66), (.t 67)])⟩, ⟨(some 14), none, (.op (.alloc 53 [(.int .i64 0), (.bool false), (.int .i64 0), (.str []), (.slc false [] .no), (.slc false [] .no), (.int .i64 0), (.int .i64 0), (.int .i64 0)]))⟩, ⟨none, none, (.op (.store 9 (.t 14) (.t 68)))⟩])
    (.seq (.draw [⟨⟨(some 69), none, (.op (.fadr 7 (.t 14)))⟩, none⟩, ⟨⟨(some 70), none, (.op (.loadL (.t 69)))⟩, none⟩, ⟨⟨(some 71), none, (.op (.fadr 8 (.t 14)))⟩, none⟩, ⟨⟨(some 72), none, (.op (.loadL (.t 71)))⟩, none⟩, ⟨⟨(some 6), none, (.op (.mov (.c (.str []))))⟩, none⟩, ⟨⟨(some 7), none, (.op (.mov (.t 70)))⟩, none⟩, ⟨⟨(some 8), none, (.op (.mov (.t 72)))⟩, none⟩])
    .ret)) .skip))
    (.seq (.reg [⟨(some 73), none, (.op (.mov (.t 10)))⟩, ⟨(some 74), none, (.op (.mov (.t 11)))⟩, ⟨(some 75), none, (.op (.bin .add (.t 74) (.c (.int .i64 1))))⟩, ⟨(some 6), none, (.op (.mov (.t 73)))⟩, ⟨(some 7), none, (.op (.mov (.t 75)))⟩, ⟨(some 8), none, (.op (.mov (.c (.int .i64 0))))⟩])
    .ret)))))))),
    res := [(.t 6), (.t 7), (.t 8)] }

theorem cf_r11key : cfunc Go.Proofs.Tryz.prog 55 = some vf_r11key := by kernel_rfl

/-- r11list -/
def vf_r11list : VFunc :=
  { m := 107, code := (.seq (.reg [⟨(some 6), none, (.op (.alloc 53 [(.int .i64 0), (.bool false), (.int .i64 0), (.str []), (.slc false [] .no), (.slc false [] .no), (.int .i64 0), (.int .i64 0), (.int .i64 0)]))⟩])
    (.seq (.reg [⟨(some 14), none, (.op (.mov (.t 1)))⟩, ⟨(some 15), none, (.op (.build [(.int .i64 0), (.bool false), (.int .i64 0), (.str []), (.slc false [] .no), (.slc false [] .no), (.int .i64 0)] [((0, 1), (.c (.int .i64 4))), ((6, 1), (.t 14))]))⟩, ⟨(some 7), none, (.op (.alloc 26 [(.int .i64 0), (.bool false), (.int .i64 0), (.str []), (.slc false [] .no), (.slc false [] .no), (.int .i64 0)]))⟩, ⟨none, none, (.op (.store 7 (.t 7) (.t 15)))⟩])
    (.seq (.reg [⟨(some 8), none, (.op (.mov (.c (.str [93]))))⟩])
    (.seq (.seq (.reg [⟨(some 16), none, (.op (.mov (.t 0)))⟩, ⟨(some 17), none, (.op (.mov (.t 1)))⟩, ⟨(some 18), none, (.op (.idxS (.t 16) (.t 17)))⟩, ⟨(some 19), none, (.op (.bin .eql (.t 18) (.c (.int .u8 123))))⟩])
    (.cond (.t 19) (.seq (.reg [⟨(some 20), none, (.op (.fadr 0 (.t 7)))⟩, ⟨none, none, (.op (.store 1 (.t 20) (.c (.int .i64 5))))⟩])
    (.reg [⟨(some 8), none, (.op (.mov (.c (.str [125]))))⟩])) .skip))
    (.seq (.reg [⟨(some 21), none, (.op (.mov (.t 0)))⟩, ⟨(some 22), none, (.op (.mov (.t 1)))⟩, ⟨(some 23), none, (.op (.bin .add (.t 22) (.c (.int .i64 1))))⟩, ⟨(some 24), none, (.call 20 [(.t 21), (.t 23)])⟩, ⟨(some 9), none, (.op (.mov (.t 24)))⟩])
    (.seq (.seq (.reg [⟨(some 25), none, (.op (.mov (.t 0)))⟩, ⟨(some 26), none, (.op (.mov (.t 9)))⟩, ⟨(some 27), none, (.op (.mov (.t 8)))⟩, ⟨(some 28), none, (.call 18 [(.t 25), (.t 26), (.t 27)])⟩])
    (.cond (.t 28) (.seq (.reg [⟨(some 29), none, (.op (.loadA 7 (.t 7)))⟩, ⟨(some 30), none, (.op (.mov (.t 9)))⟩, ⟨(some 31), none, (.op (.bin .add (.t 30) (.c (.int .i64 1))))⟩, ⟨(some 32), none, (.op (.build [(.int .i64 0), (.bool false), (.int .i64 0), (.str []), (.slc false [] .no), (.slc false [] .no), (.int .i64 0), (.int .i64 0), (.int .i64 0)] [((0, 7), (.t 29)), ((7, 1), (.t 31))]))⟩, ⟨none, none, (.op (.store 9 (.t 6) (.t 32)))⟩])
    .ret) .skip))
    (.block 0 (.loop (.block 1 (.seq (.reg [⟨(some 33), none, (.op (.mov (.t 0)))⟩, ⟨(some 34), none, (.op (.mov (.t 9)))⟩, ⟨(some 35), none, (.call 20 [(.t 33), (.t 34)])⟩, ⟨(some 10), none, (.op (.mov (.t 35)))⟩])
    (.seq (.reg [⟨(some 36), none, (.op (.mov (.t 10)))⟩, ⟨(some 9), none, (.op (.mov (.t 36)))⟩])
    (.seq (.reg [⟨(some 11), none, (.op (.mov (.c (.str []))))⟩])
    (.seq (.reg [⟨(some 12), none, (.op (.mov (.c (.int .i64 0))))⟩])
    (.seq (.seq (.reg [⟨(some 37), none, (.op (.fadr 0 (.t 7)))⟩, ⟨(some 38), none, (.op (.loadL (.t 37)))⟩, ⟨(some 39), none, (.op (.bin .eql (.t 38) (.c (.int .i64 5))))⟩])
    (.cond (.t 39) (.seq (.reg [⟨(some 41), none, (.op (.mov (.t 0)))⟩, ⟨(some 42), none, (.op (.mov (.t 9)))⟩, ⟨(some 43), none, (.op (.loadA 7 (.t 7)))⟩, ⟨(some 44), none, (.call 55 [(.t 41), (.t 42), (.t 43)])⟩, ⟨(some 40), none, (.op (.mov (.t 44)))⟩, ⟨(some 45), none, (.op (.ext (.t 40) 0))⟩, ⟨(some 46), none, (.op (.ext (.t 40) 1))⟩, ⟨(some 47), none, (.op (.ext (.t 40) 2))⟩, ⟨(some 11), none, (.op (.mov (.t 45)))⟩, ⟨(some 9), none, (.op (.mov (.t 46)))⟩, ⟨(some 12), none, (.op (.mov (.t 47)))⟩])
    (.seq (.reg [⟨(some 48), none, (.op (.mov (.t 12)))⟩, ⟨(some 49), none, (.op (.bin .neq (.t 48) (.c (.int .i64 0))))⟩])
    (.cond (.t 49) (.seq (.reg [⟨(some 50), none, (.op (.mov (.t 9)))⟩, ⟨(some 51), none, (.op (.mov (.t 12)))⟩, ⟨(some 52), none, (.op (.build [(.int .i64 0), (.bool false), (.int .i64 0), (.str []), (.slc false [] .no), (.slc false [] .no), (.int .i64 0), (.int .i64 0), (.int .i64 0)] [((7, 1), (.t 50)), ((8, 1), (.t 51))]))⟩, ⟨none, none, (.op (.store 9 (.t 6) (.t 52)))⟩])
    .ret) .skip))) .skip))
    (.seq (.reg [⟨(some 53), none, (.op (.mov (.t 0)))⟩, ⟨(some 54), none, (.op (.mov (.t 9)))⟩, ⟨(some 55), none, (.op (.mov (.t 2)))⟩, ⟨(some 56), none, (.op (.bin .add (.t 55) (.c (.int .i64 1))))⟩, ⟨(some 57), none, (.call 19 [(.t 53), (.t 54), (.t 56)])⟩, ⟨(some 13), none, (.op (.alloc 53 [(.int .i64 0), (.bool false), (.int .i64 0), (.str []), (.slc false [] .no), (.slc false [] .no), (.int .i64 0), (.int .i64 0), (.int .i64 0)]))⟩, ⟨none, none, (.op (.store 9 (.t 13) (.t 57)))⟩])
    (.seq (.seq (.reg [⟨(some 58), none, (.op (.fadr 8 (.t 13)))⟩, ⟨(some 59), none, (.op (.loadL (.t 58)))⟩, ⟨(some 60), none, (.op (.bin .neq (.t 59) (.c (.int .i64 0))))⟩])
    (.cond (.t 60) (.seq (.reg [⟨(some 61), none, (.op (.loadA 9 (.t 13)))⟩, ⟨none, none, (.op (.store 9 (.t 6) (.t 61)))⟩])
    .ret) .skip))
    (.seq (.seq (.reg [⟨(some 62), none, (.op (.fadr 0 (.t 7)))⟩, ⟨(some 63), none, (.op (.loadL (.t 62)))⟩, ⟨(some 64), none, (.op (.bin .eql (.t 63) (.c (.int .i64 5))))⟩])
    (.cond (.t 64) (.draw [⟨⟨(some 65), none, (.op (.bslc 9 []))⟩, none⟩, ⟨⟨(some 66), none, (.op (.fadr 5 (.t 7)))⟩, none⟩, ⟨⟨(some 67), none, (.op (.loadL (.t 66)))⟩, none⟩, ⟨⟨(some 69), none, (.op (.mov (.t 11)))⟩, none⟩, ⟨⟨(some 70), none, (.op (.fadr 0 (.t 13)))⟩, none⟩, ⟨⟨(some 71), none, (.op (.loadA 7 (.t 70)))⟩, none⟩, ⟨⟨(some 72), none, (.op (.mov (.t 10)))⟩, none⟩, ⟨⟨(some 73), none, (.op (.build [(.str []), (.int .i64 0), (.bool false), (.int .i64 0), (.str []), (.slc false [] .no), (.slc false [] .no), (.int .i64 0), (.int .i64 0)] [((0, 1), (.t 69)), ((1, 7), (.t 71)), ((8, 1), (.t 72))]))⟩, none⟩, ⟨⟨(some 74), none, (.op (.bslc 9 [(.t 73)]))⟩, none⟩, ⟨⟨(some 68), none, (.op (.app 41 9 [(.str []), (.int .i64 0), (.bool false), (.int .i64 0), (.str []), (.slc false [] .no), (.slc false [] .no), (.int .i64 0), (.int .i64 0)] (.t 65) (.t 67)))⟩, (some [⟨(some 69), none, (.op (.mov (.t 11)))⟩, ⟨(some 70), none, (.op (.fadr 0 (.t 13)))⟩, ⟨(some 71), none, (.op (.loadA 7 (.t 70)))⟩, ⟨(some 72), none, (.op (.mov (.t 10)))⟩, ⟨(some 73), none, (.op (.build [(.str []), (.int .i64 0), (.bool false), (.int .i64 0), (.str []), (.slc false [] .no), (.slc false [] .no), (.int .i64 0), (.int .i64 0)] [((0, 1), (.t 69)), ((1, 7), (.t 71)), ((8, 1), (.t 72))]))⟩, ⟨(some 74), none, (.op (.bslc 9 [(.t 73)]))⟩])⟩, ⟨⟨(some 75), none, (.op (.app 41 9 [(.str []), (.int .i64 0), (.bool false), (.int .i64 0), (.str []), (.slc false [] .no), (.slc false [] .no), (.int .i64 0), (.int .i64 0)] (.t 68) (.t 74)))⟩, (some [])⟩, ⟨⟨(some 76), none, (.op (.fadr 5 (.t 7)))⟩, none⟩, ⟨⟨none, none, (.op (.store 1 (.t 76) (.t 75)))⟩, (some [])⟩]) (.draw [⟨⟨(some 77), none, (.op (.bslc 7 []))⟩, none⟩, ⟨⟨(some 78), none, (.op (.fadr 4 (.t 7)))⟩, none⟩, ⟨⟨(some 79), none, (.op (.loadL (.t 78)))⟩, none⟩, ⟨⟨(some 81), none, (.op (.fadr 0 (.t 13)))⟩, none⟩, ⟨⟨(some 82), none, (.op (.loadA 7 (.t 81)))⟩, none⟩, ⟨⟨(some 83), none, (.op (.bslc 7 [(.t 82)]))⟩, none⟩, ⟨⟨(some 80), none, (.op (.app 26 7 [(.int .i64 0), (.bool false), (.int .i64 0), (.str []), (.slc false [] .no), (.slc false [] .no), (.int .i64 0)] (.t 77) (.t 79)))⟩, (some [⟨(some 81), none, (.op (.fadr 0 (.t 13)))⟩, ⟨(some 82), none, (.op (.loadA 7 (.t 81)))⟩, ⟨(some 83), none, (.op (.bslc 7 [(.t 82)]))⟩])⟩, ⟨⟨(some 84), none, (.op (.app 26 7 [(.int .i64 0), (.bool false), (.int .i64 0), (.str []), (.slc false [] .no), (.slc false [] .no), (.int .i64 0)] (.t 80) (.t 83)))⟩, (some [])⟩, ⟨⟨(some 85), none, (.op (.fadr 4 (.t 7)))⟩, none⟩, ⟨⟨none, none, (.op (.store 1 (.t 85) (.t 84)))⟩, (some [])⟩])))
    (.seq (.reg [⟨(some 86), none, (.op (.mov (.t 0)))⟩, ⟨(some 87), none, (.op (.fadr 7 (.t 13)))⟩, ⟨(some 88), none, (.op (.loadL (.t 87)))⟩, ⟨(some 89), none, (.call 20 [(.t 86), (.t 88)])⟩, ⟨(some 9), none, (.op (.mov (.t 89)))⟩])
    (.seq (.seq (.reg [⟨(some 90), none, (.op (.mov (.t 0)))⟩, ⟨(some 91), none, (.op (.mov (.t 9)))⟩, ⟨(some 92), none, (.op (.mov (.t 8)))⟩, ⟨(some 93), none, (.call 18 [(.t 90), (.t 91), (.t 92)])⟩])
    (.cond (.t 93) (.seq (.reg [⟨(some 94), none, (.op (.loadA 7 (.t 7)))⟩, ⟨(some 95), none, (.op (.mov (.t 9)))⟩, ⟨(some 96), none, (.op (.bin .add (.t 95) (.c (.int .i64 1))))⟩, ⟨(some 97), none, (.op (.build [(.int .i64 0), (.bool false), (.int .i64 0), (.str []), (.slc false [] .no), (.slc false [] .no), (.int .i64 0), (.int .i64 0), (.int .i64 0)] [((0, 7), (.t 94)), ((7, 1), (.t 96))]))⟩, ⟨none, none, (.op (.store 9 (.t 6) (.t 97)))⟩])
    .ret) .skip))
    (.seq (.seq (.reg [⟨(some 98), none, (.op (.mov (.t 0)))⟩, ⟨(some 99), none, (.op (.mov (.t 9)))⟩, ⟨(some 100), none, (.call 18 [(.t 98), (.t 99), (.c (.str [44]))])⟩, ⟨(some 101), none, (.op (.un .not (.t 100)))⟩])
    (.cond (.t 101) (.seq (.reg [⟨(some 102), none, (.op (.mov (.t 0)))⟩, ⟨(some 103), none, (.op (.mov (.t 9)))⟩, ⟨(some 104), none, (.call 36 [(.t 102), (.t 103)])⟩, ⟨none, none, (.op (.store 9 (.t 6) (.t 104)))⟩])
    .ret) .skip))
    (.reg [⟨(some 105), none, (.op (.mov (.t 9)))⟩, ⟨(some 106), none, (.op (.bin .add (.t 105) (.c (.int .i64 1))))⟩, ⟨(some 9), none, (.op (.mov (.t 106)))⟩]))))))))))))))))))))),
    res := [(.a 9 6)] }

theorem cf_r11list : cfunc Go.Proofs.Tryz.prog 40 = some vf_r11list := by kernel_rfl

/-- r11Parse -/
def vf_r11Parse : VFunc :=
  { m := 34, code := (.seq (.reg [⟨(some 2), none, (.op (.alloc 26 [(.int .i64 0), (.bool false), (.int .i64 0), (.str []), (.slc false [] .no), (.slc false [] .no), (.int .i64 0)]))⟩, ⟨(some 3), none, (.op (.mov (.c (.int .i64 0))))⟩, ⟨(some 4), none, (.op (.mov (.c (.int .i64 0))))⟩])
    (.seq (.reg [⟨(some 5), none, (.op (.mov (.c (.int .i64 0))))⟩])
    (.seq (.seq (.reg [⟨(some 7), none, (.op (.mov (.t 0)))⟩, ⟨(some 8), none, (.call 18 [(.t 7), (.c (.int .i64 0)), (.c (.str [239, 187, 191]))])⟩])
    (.cond (.t 8) (.reg [⟨(some 5), none, (.op (.mov (.c (.int .i64 3))))⟩]) .skip))
    (.seq (.reg [⟨(some 9), none, (.op (.mov (.t 0)))⟩, ⟨(some 10), none, (.op (.mov (.t 5)))⟩, ⟨(some 11), none, (.call 19 [(.t 9), (.t 10), (.c (.int .i64 1))])⟩, ⟨(some 6), none, (.op (.alloc 53 [(.int .i64 0), (.bool false), (.int .i64 0), (.str []), (.slc false [] .no), (.slc false [] .no), (.int .i64 0), (.int .i64 0), (.int .i64 0)]))⟩, ⟨none, none, (.op (.store 9 (.t 6) (.t 11)))⟩])
    (.seq (.seq (.reg [⟨(some 12), none, (.op (.fadr 8 (.t 6)))⟩, ⟨(some 13), none, (.op (.loadL (.t 12)))⟩, ⟨(some 14), none, (.op (.bin .neq (.t 13) (.c (.int .i64 0))))⟩])
    (.cond (.t 14) (.seq (.draw [⟨⟨(some 15), none, (.op (.build [(.int .i64 0), (.bool false), (.int .i64 0), (.str []), (.slc false [] .no), (.slc false [] .no), (.int .i64 0)] []))⟩, none⟩, ⟨⟨(some 16), none, (.op (.fadr 7 (.t 6)))⟩, none⟩, ⟨⟨(some 17), none, (.op (.loadL (.t 16)))⟩, none⟩, ⟨⟨(some 18), none, (.op (.fadr 8 (.t 6)))⟩, none⟩, ⟨⟨(some 19), none, (.op (.loadL (.t 18)))⟩, none⟩, ⟨⟨none, none, (.op (.store 7 (.t 2) (.t 15)))⟩, (some [⟨(some 16), none, (.op (.fadr 7 (.t 6)))⟩, ⟨(some 17), none, (.op (.loadL (.t 16)))⟩, ⟨(some 18), none, (.op (.fadr 8 (.t 6)))⟩, ⟨(some 19), none, (.op (.loadL (.t 18)))⟩])⟩, ⟨⟨(some 3), none, (.op (.mov (.t 17)))⟩, none⟩, ⟨⟨(some 4), none, (.op (.mov (.t 19)))⟩, none⟩])
    .ret) .skip))
    (.seq (.reg [⟨(some 20), none, (.op (.mov (.t 0)))⟩, ⟨(some 21), none, (.op (.fadr 7 (.t 6)))⟩, ⟨(some 22), none, (.op (.loadL (.t 21)))⟩, ⟨(some 23), none, (.call 20 [(.t 20), (.t 22)])⟩, ⟨(some 5), none, (.op (.mov (.t 23)))⟩])
    (.seq (.seq (.reg [⟨(some 24), none, (.op (.mov (.t 5)))⟩, ⟨(some 25), none, (.op (.mov (.t 0)))⟩, ⟨(some 26), none, (.op (.lenS (.t 25)))⟩, ⟨(some 27), none, (.op (.bin .lss (.t 24) (.t 26)))⟩])
    (.cond (.t 27) (.seq (.reg [⟨(some 28), none, (.op (.build [(.int .i64 0), (.bool false), (.int .i64 0), (.str []), (.slc false [] .no), (.slc false [] .no), (.int .i64 0)] []))⟩, ⟨(some 29), none, (.op (.mov (.t 5)))⟩, ⟨none, none, (.op (.store 7 (.t 2) (.t 28)))⟩, ⟨(some 3), none, (.op (.mov (.t 29)))⟩, ⟨(some 4), none, (.op (.mov (.c (.int .i64 17))))⟩])
    .ret) .skip))
    (.seq (.reg [⟨(some 30), none, (.op (.fadr 0 (.t 6)))⟩, ⟨(some 31), none, (.op (.loadA 7 (.t 30)))⟩, ⟨(some 32), none, (.op (.mov (.t 0)))⟩, ⟨(some 33), none, (.op (.lenS (.t 32)))⟩, ⟨none, none, (.op (.store 7 (.t 2) (.t 31)))⟩, ⟨(some 3), none, (.op (.mov (.t 33)))⟩, ⟨(some 4), none, (.op (.mov (.c (.int .i64 0))))⟩])
    .ret)))))))),
    res := [(.a 7 2), (.t 3), (.t 4)] }

theorem cf_r11Parse : cfunc Go.Proofs.Tryz.prog 7 = some vf_r11Parse := by kernel_rfl

end Go.Proofs.YtgdcdkgmeomhpaaGreatDoor

namespace Go.Proofs.YtgdcdkgmeomhpaaGreatDoor
open Go Go.Vs
set_option maxRecDepth 20000
attribute [local irreducible] chooseK

theorem spB_or (c : UInt8) : spB c.toNat = ((c.toNat : Int) == 9 || ((c.toNat : Int) == 10 || ((c.toNat : Int) == 13 || (c.toNat : Int) == 32))) :=
  eq_of_beq (all_u8 (p := fun c => spB c.toNat == ((c.toNat : Int) == 9 || ((c.toNat : Int) == 10 || ((c.toNat : Int) == 13 || (c.toNat : Int) == 32)))) (by kernel_rfl) c)
theorem r01IsSpace_C {c : UInt8} {σ : St} {Q : Out → St → Prop} (h : Q (.ret (.bool (spB c.toNat))) σ) : C Xc 43 [.int .u8 (c.toNat : Int)] σ Q := by
  rw [spB_or] at h
  refine body cf_r01IsSpace (Eq.refl true) ?_
  simp -implicitDefEqProofs only [vf_r01IsSpace, wset, tailW, tailEnd, isLenV, isOneV, vop, vbin, vbinI, vun, ↓reduceIte, Nat.reduceEqDiff, Nat.reduceAdd, vcells, vcut, cutSK, cutVK, cutNK, fillV, spl, Nat.reduceLeDiff, V.isNil, bne_self_eq_false]
  repeat' first
    | refine And.intro (by omega) ?_
    | (refine chooseK_split (fun hh => ?_) (fun hh => ?_) <;> simp -implicitDefEqProofs only [hh, wset, wset, tailW, tailEnd, isLenV, isOneV, vop, vbin, vbinI, vun, ↓reduceIte, Nat.reduceEqDiff, Nat.reduceAdd, vcells, vcut, cutSK, cutVK, cutNK, fillV, spl, Nat.reduceLeDiff, V.isNil, bne_self_eq_false])
  all_goals
    refine .inl ?_
    simpa [*] using h

/-- A rune's bytes; none where it is no rune. -/
def enc01 (r : Nat) : List UInt8 := if 1114111 < r ∨ (55296 ≤ r ∧ r ≤ 57343) then [] else encR r

theorem vbytesN {l : List Nat} (h : ∀ x ∈ l, x < 256) : vbytes (l.map fun (n : Nat) => V.int .u8 (n : Int)) = some (l.map UInt8.ofNat) := by
  rw [← bytesV_ofNat h, vbytes_bytesV]
theorem tdivN (a b : Nat) : (a : Int).tdiv (b : Int) = ((a / b : Nat) : Int) := by
  rw [Int.tdiv_eq_ediv_of_nonneg (by omega)]; rfl
theorem tmodN (a b : Nat) : (a : Int).tmod (b : Int) = ((a % b : Nat) : Int) := by
  rw [Int.tmod_eq_emod_of_nonneg (by omega)]; rfl

theorem r01Encode_C {r : Nat} {σ : St} {Q : Out → St → Prop} (hr : r < 4294967296) (h : Q (.ret (.str (enc01 r))) σ) : C Xc 54 [.int .i64 (r : Int)] σ Q := by
  refine body cf_r01Encode (Eq.refl true) ?_
  have n0 : decide ((r : Int) < 0) = false := decide_eq_false (by omega)
  have d1 : (r : Int).tdiv 64 = ((r / 64 : Nat) : Int) := tdivN r 64
  have d2 : (r : Int).tdiv 4096 = ((r / 4096 : Nat) : Int) := tdivN r 4096
  have d3 : (r : Int).tdiv 262144 = ((r / 262144 : Nat) : Int) := tdivN r 262144
  have m1 : (r : Int).tmod 64 = ((r % 64 : Nat) : Int) := tmodN r 64
  have m2 : ((r / 64 : Nat) : Int).tmod 64 = ((r / 64 % 64 : Nat) : Int) := tmodN (r / 64) 64
  have m3 : ((r / 4096 : Nat) : Int).tmod 64 = ((r / 4096 % 64 : Nat) : Int) := tmodN (r / 4096) 64
  have w64 : ∀ n : Nat, n < 4294967296 → IntKind.wrap .i64 (n : Int) = (n : Int) := fun n hn => wrap64 (by omega)
  have wd1 := w64 (r / 64) (by omega)
  have wd2 := w64 (r / 4096) (by omega)
  have wd3 := w64 (r / 262144) (by omega)
  have add : ∀ (a : Int) (k b : Nat), a = (k : Int) → k + b < 4294967296 → IntKind.wrap .i64 (a + (b : Int)) = ((k + b : Nat) : Int) := fun a k b e hb => by rw [e, ← Int.natCast_add]; exact w64 _ hb
  have a1 := add 192 192 (r / 64) rfl (by omega)
  have a2 := add 128 128 (r % 64) rfl (by omega)
  have a3 := add 224 224 (r / 4096) rfl (by omega)
  have a4 := add 128 128 (r / 64 % 64) rfl (by omega)
  have a5 := add 240 240 (r / 262144) rfl (by omega)
  have a6 := add 128 128 (r / 4096 % 64) rfl (by omega)
  have ne1 : ((64 : Int) ≠ 0) = True := by simp
  have ne2 : ((4096 : Int) ≠ 0) = True := by simp
  have ne3 : ((262144 : Int) ≠ 0) = True := by simp
  have one : ∀ l : List Nat, ∀ y ∈ l.map (fun (n : Nat) => V.int .u8 (n : Int)), y.cells.length = 1 ∧ y.notTup = true := fun l y hy => by
    obtain ⟨n, _, rfl⟩ := List.mem_map.1 hy
    exact ⟨rfl, rfl⟩
  simp -implicitDefEqProofs only [vf_r01Encode, n0, d1, d2, d3, m1, m2, m3, wd1, wd2, wd3, a1, a2, a3, a4, a5, a6, ne1, ne2, ne3, wrapu8, wset, tailW, tailEnd, isLenV, isOneV, vop, vbin, vbinI, vun, ↓reduceIte, Nat.reduceEqDiff, Nat.reduceAdd, vcells, vcut, cutSK, cutVK, cutNK, fillV, spl, Nat.reduceLeDiff, V.isNil, bne_self_eq_false]
  refine chooseK_split (fun h1 => ?_) (fun h1 => ?_) <;> simp -implicitDefEqProofs only [h1, n0, d1, d2, d3, m1, m2, m3, wd1, wd2, wd3, a1, a2, a3, a4, a5, a6, ne1, ne2, ne3, wrapu8, wset, tailW, tailEnd, isLenV, isOneV, vop, vbin, vbinI, vun, ↓reduceIte, Nat.reduceEqDiff, Nat.reduceAdd, vcells, vcut, cutSK, cutVK, cutNK, fillV, spl, Nat.reduceLeDiff, V.isNil, bne_self_eq_false]
  · rw [enc01, if_pos (.inl (by simp at h1; omega))] at h
    exact .inl h
  refine chooseK_split (fun h2 => ?_) (fun h2 => ?_) <;> simp -implicitDefEqProofs only [h2, n0, d1, d2, d3, m1, m2, m3, wd1, wd2, wd3, a1, a2, a3, a4, a5, a6, ne1, ne2, ne3, wrapu8, wset, tailW, tailEnd, isLenV, isOneV, vop, vbin, vbinI, vun, ↓reduceIte, Nat.reduceEqDiff, Nat.reduceAdd, vcells, vcut, cutSK, cutVK, cutNK, fillV, spl, Nat.reduceLeDiff, V.isNil, bne_self_eq_false]
  · refine chooseK_split (fun h3 => ?_) (fun h3 => ?_) <;> simp -implicitDefEqProofs only [h3, n0, d1, d2, d3, m1, m2, m3, wd1, wd2, wd3, a1, a2, a3, a4, a5, a6, ne1, ne2, ne3, wrapu8, wset, tailW, tailEnd, isLenV, isOneV, vop, vbin, vbinI, vun, ↓reduceIte, Nat.reduceEqDiff, Nat.reduceAdd, vcells, vcut, cutSK, cutVK, cutNK, fillV, spl, Nat.reduceLeDiff, V.isNil, bne_self_eq_false]
    · rw [enc01, if_pos (.inr ⟨by simp at h2; omega, by simp at h3; omega⟩)] at h
      exact .inl h
    have hr2 : r = r ∧ 57343 < r := ⟨rfl, by simp at h3; omega⟩
    have hno : ¬ (1114111 < r ∨ (55296 ≤ r ∧ r ≤ 57343)) := by simp at h1; omega
    rw [enc01, if_neg hno, encR, encN] at h
    refine chooseK_split (fun h4 => ?_) (fun h4 => ?_) <;> simp -implicitDefEqProofs only [h4, n0, d1, d2, d3, m1, m2, m3, wd1, wd2, wd3, a1, a2, a3, a4, a5, a6, ne1, ne2, ne3, wrapu8, wset, tailW, tailEnd, isLenV, isOneV, vop, vbin, vbinI, vun, ↓reduceIte, Nat.reduceEqDiff, Nat.reduceAdd, vcells, vcut, cutSK, cutVK, cutNK, fillV, spl, Nat.reduceLeDiff, V.isNil, bne_self_eq_false]
    · have hr4 : r < 128 := by simp at h4; omega
      rw [if_pos (by omega)] at h
      rw [show r % 256 = r by omega]
      have e := vbytesN (l := [r]) (by intro x hx; simp at hx; omega)
      simp only [List.map_cons, List.map_nil] at e
      refine ⟨one [r], ?_⟩
      rw [e]
      exact .inl h
    have hr4 : ¬ r < 128 := by simp at h4; omega
    rw [if_neg (by omega)] at h
    refine chooseK_split (fun h5 => ?_) (fun h5 => ?_) <;> simp -implicitDefEqProofs only [h5, n0, d1, d2, d3, m1, m2, m3, wd1, wd2, wd3, a1, a2, a3, a4, a5, a6, ne1, ne2, ne3, wrapu8, wset, tailW, tailEnd, isLenV, isOneV, vop, vbin, vbinI, vun, ↓reduceIte, Nat.reduceEqDiff, Nat.reduceAdd, vcells, vcut, cutSK, cutVK, cutNK, fillV, spl, Nat.reduceLeDiff, V.isNil, bne_self_eq_false]
    · have hr5 : r < 2048 := by simp at h5; omega
      rw [if_pos (by omega)] at h
      rw [show (192 + r / 64) % 256 = 192 + r / 64 by omega, show (128 + r % 64) % 256 = 128 + r % 64 by omega]
      have e := vbytesN (l := [192 + r / 64, 128 + r % 64]) (by intro x hx; simp at hx; omega)
      simp only [List.map_cons, List.map_nil] at e
      refine ⟨one [192 + r / 64, 128 + r % 64], ?_⟩
      rw [e]
      exact .inl h
    have hr5 : ¬ r < 2048 := by simp at h5; omega
    rw [if_neg (by omega)] at h
    refine chooseK_split (fun h6 => ?_) (fun h6 => ?_) <;> simp -implicitDefEqProofs only [h6, n0, d1, d2, d3, m1, m2, m3, wd1, wd2, wd3, a1, a2, a3, a4, a5, a6, ne1, ne2, ne3, wrapu8, wset, tailW, tailEnd, isLenV, isOneV, vop, vbin, vbinI, vun, ↓reduceIte, Nat.reduceEqDiff, Nat.reduceAdd, vcells, vcut, cutSK, cutVK, cutNK, fillV, spl, Nat.reduceLeDiff, V.isNil, bne_self_eq_false]
    · have hr6 : r < 65536 := by simp at h6; omega
      rw [if_pos (by omega)] at h
      rw [show (224 + r / 4096) % 256 = 224 + r / 4096 by omega, show (128 + r / 64 % 64) % 256 = 128 + r / 64 % 64 by omega, show (128 + r % 64) % 256 = 128 + r % 64 by omega]
      have e := vbytesN (l := [224 + r / 4096, 128 + r / 64 % 64, 128 + r % 64]) (by intro x hx; simp at hx; omega)
      simp only [List.map_cons, List.map_nil] at e
      refine ⟨one [224 + r / 4096, 128 + r / 64 % 64, 128 + r % 64], ?_⟩
      rw [e]
      exact .inl h
    have hr6 : ¬ r < 65536 := by simp at h6; omega
    rw [if_neg (by omega), if_pos (by omega)] at h
    rw [show (240 + r / 262144) % 256 = 240 + r / 262144 by omega, show (128 + r / 4096 % 64) % 256 = 128 + r / 4096 % 64 by omega, show (128 + r / 64 % 64) % 256 = 128 + r / 64 % 64 by omega, show (128 + r % 64) % 256 = 128 + r % 64 by omega]
    have e := vbytesN (l := [240 + r / 262144, 128 + r / 4096 % 64, 128 + r / 64 % 64, 128 + r % 64]) (by intro x hx; simp at hx; omega)
    simp only [List.map_cons, List.map_nil] at e
    refine ⟨one [240 + r / 262144, 128 + r / 4096 % 64, 128 + r / 64 % 64, 128 + r % 64], ?_⟩
    rw [e]
    exact .inl h
  have hr2 : r = r ∧ r < 55296 := ⟨rfl, by simp at h2; omega⟩
  have hno : ¬ (1114111 < r ∨ (55296 ≤ r ∧ r ≤ 57343)) := by simp at h1; omega
  rw [enc01, if_neg hno, encR, encN] at h
  refine chooseK_split (fun h4 => ?_) (fun h4 => ?_) <;> simp -implicitDefEqProofs only [h4, n0, d1, d2, d3, m1, m2, m3, wd1, wd2, wd3, a1, a2, a3, a4, a5, a6, ne1, ne2, ne3, wrapu8, wset, tailW, tailEnd, isLenV, isOneV, vop, vbin, vbinI, vun, ↓reduceIte, Nat.reduceEqDiff, Nat.reduceAdd, vcells, vcut, cutSK, cutVK, cutNK, fillV, spl, Nat.reduceLeDiff, V.isNil, bne_self_eq_false]
  · have hr4 : r < 128 := by simp at h4; omega
    rw [if_pos (by omega)] at h
    rw [show r % 256 = r by omega]
    have e := vbytesN (l := [r]) (by intro x hx; simp at hx; omega)
    simp only [List.map_cons, List.map_nil] at e
    refine ⟨one [r], ?_⟩
    rw [e]
    exact .inl h
  have hr4 : ¬ r < 128 := by simp at h4; omega
  rw [if_neg (by omega)] at h
  refine chooseK_split (fun h5 => ?_) (fun h5 => ?_) <;> simp -implicitDefEqProofs only [h5, n0, d1, d2, d3, m1, m2, m3, wd1, wd2, wd3, a1, a2, a3, a4, a5, a6, ne1, ne2, ne3, wrapu8, wset, tailW, tailEnd, isLenV, isOneV, vop, vbin, vbinI, vun, ↓reduceIte, Nat.reduceEqDiff, Nat.reduceAdd, vcells, vcut, cutSK, cutVK, cutNK, fillV, spl, Nat.reduceLeDiff, V.isNil, bne_self_eq_false]
  · have hr5 : r < 2048 := by simp at h5; omega
    rw [if_pos (by omega)] at h
    rw [show (192 + r / 64) % 256 = 192 + r / 64 by omega, show (128 + r % 64) % 256 = 128 + r % 64 by omega]
    have e := vbytesN (l := [192 + r / 64, 128 + r % 64]) (by intro x hx; simp at hx; omega)
    simp only [List.map_cons, List.map_nil] at e
    refine ⟨one [192 + r / 64, 128 + r % 64], ?_⟩
    rw [e]
    exact .inl h
  have hr5 : ¬ r < 2048 := by simp at h5; omega
  rw [if_neg (by omega)] at h
  refine chooseK_split (fun h6 => ?_) (fun h6 => ?_) <;> simp -implicitDefEqProofs only [h6, n0, d1, d2, d3, m1, m2, m3, wd1, wd2, wd3, a1, a2, a3, a4, a5, a6, ne1, ne2, ne3, wrapu8, wset, tailW, tailEnd, isLenV, isOneV, vop, vbin, vbinI, vun, ↓reduceIte, Nat.reduceEqDiff, Nat.reduceAdd, vcells, vcut, cutSK, cutVK, cutNK, fillV, spl, Nat.reduceLeDiff, V.isNil, bne_self_eq_false]
  · have hr6 : r < 65536 := by simp at h6; omega
    rw [if_pos (by omega)] at h
    rw [show (224 + r / 4096) % 256 = 224 + r / 4096 by omega, show (128 + r / 64 % 64) % 256 = 128 + r / 64 % 64 by omega, show (128 + r % 64) % 256 = 128 + r % 64 by omega]
    have e := vbytesN (l := [224 + r / 4096, 128 + r / 64 % 64, 128 + r % 64]) (by intro x hx; simp at hx; omega)
    simp only [List.map_cons, List.map_nil] at e
    refine ⟨one [224 + r / 4096, 128 + r / 64 % 64, 128 + r % 64], ?_⟩
    rw [e]
    exact .inl h
  have hr6 : ¬ r < 65536 := by simp at h6; omega
  rw [if_neg (by omega), if_pos (by omega)] at h
  rw [show (240 + r / 262144) % 256 = 240 + r / 262144 by omega, show (128 + r / 4096 % 64) % 256 = 128 + r / 4096 % 64 by omega, show (128 + r / 64 % 64) % 256 = 128 + r / 64 % 64 by omega, show (128 + r % 64) % 256 = 128 + r % 64 by omega]
  have e := vbytesN (l := [240 + r / 262144, 128 + r / 4096 % 64, 128 + r / 64 % 64, 128 + r % 64]) (by intro x hx; simp at hx; omega)
  simp only [List.map_cons, List.map_nil] at e
  refine ⟨one [240 + r / 262144, 128 + r / 4096 % 64, 128 + r / 64 % 64, 128 + r % 64], ?_⟩
  rw [e]
  exact .inl h

theorem r06Has_C {s p : List UInt8} {i : Nat} {σ : St} {Q : Out → St → Prop} (hi : i ≤ s.length) (hs : s.length ≤ big) (hp : p.length ≤ big) (h : Q (.ret (.bool (hasPre (s.drop i) p))) σ) : C Xc 18 [.str s, .int .i64 (i : Int), .str p] σ Q := by
  unfold big at hs hp
  refine body cf_r06Has (Eq.refl true) ?_
  have g0 : decide ((i : Int) ≥ 0) = true := decide_eq_true (by omega)
  simp -implicitDefEqProofs only [vf_r06Has, g0, wset, tailW, tailEnd, isLenV, isOneV, vop, vbin, vbinI, vun, ↓reduceIte, Nat.reduceEqDiff, Nat.reduceAdd, vcells, vcut, cutSK, cutVK, cutNK, fillV, spl, Nat.reduceLeDiff, V.isNil, bne_self_eq_false]
  rw [wrap64 (by omega)]
  refine chooseK_split (fun h1 => ?_) (fun h1 => ?_) <;> simp -implicitDefEqProofs only [h1, wset, tailW, tailEnd, isLenV, isOneV, vop, vbin, vbinI, vun, ↓reduceIte, Nat.reduceEqDiff, Nat.reduceAdd, vcells, vcut, cutSK, cutVK, cutNK, fillV, spl, Nat.reduceLeDiff, V.isNil, bne_self_eq_false]
  · have h1' : p.length ≤ s.length - i := by simp at h1; omega
    rw [wrap64 (by omega)]
    refine ⟨by omega, by omega, ?_⟩
    rw [show ((i : Int) + (p.length : Int)).toNat = i + p.length by omega]
    have e : cut s i (i + p.length) = (s.drop i).take p.length := by
      rw [cut, List.drop_take, Nat.add_sub_cancel_left]
    simp -implicitDefEqProofs only [e, wset, tailW, tailEnd, isLenV, isOneV, vop, vbin, vbinI, vun, ↓reduceIte, Nat.reduceEqDiff, Nat.reduceAdd, vcells, vcut, cutSK, cutVK, cutNK, fillV, spl, Nat.reduceLeDiff, V.isNil, bne_self_eq_false]
    exact .inl h
  · have h1' : ¬ p.length ≤ s.length - i := by simp at h1; omega
    have : hasPre (s.drop i) p = false := by
      unfold hasPre
      rw [beq_eq_false_iff_ne]
      intro e
      have := congrArg List.length e
      rw [List.length_take, List.length_drop] at this
      omega
    rw [this] at h
    exact .inl h

end Go.Proofs.YtgdcdkgmeomhpaaGreatDoor

namespace Go.Proofs.YtgdcdkgmeomhpaaGreatDoor
open Go Go.Vs
set_option maxRecDepth 20000
attribute [local irreducible] chooseK

theorem ofNat_eq {x : Nat} (h : x < 256) (a : UInt8) : UInt8.ofNat x = a ↔ x = a.toNat := by
  rw [← UInt8.toNat_inj]
  simp only [UInt8.toNat_ofNat']
  rw [Nat.mod_eq_of_lt h]

theorem enc_one (c : Nat) (a : UInt8) : enc01 c = [a] ↔ (c < 128 ∧ a.toNat = c) := by
  have := a.toNat_lt
  unfold enc01 encR encN
  repeat' split
  all_goals simp only [List.map_cons, List.map_nil, List.cons.injEq, and_true, reduceCtorEq, and_false, false_iff, not_and, List.nil_eq, false_and]
  all_goals try omega
  all_goals (repeat rw [ofNat_eq (by omega)])
  all_goals omega
theorem enc_two (c : Nat) (a b : UInt8) : enc01 c = [a, b] ↔ (128 ≤ c ∧ c < 2048 ∧ a.toNat = 192 + c / 64 ∧ b.toNat = 128 + c % 64) := by
  have := a.toNat_lt
  unfold enc01 encR encN
  repeat' split
  all_goals simp only [List.map_cons, List.map_nil, List.cons.injEq, and_true, reduceCtorEq, and_false, false_iff, not_and, List.nil_eq, false_and]
  all_goals try omega
  all_goals (repeat rw [ofNat_eq (by omega)])
  all_goals omega
theorem enc_three (c : Nat) (a b d : UInt8) : enc01 c = [a, b, d] ↔ (2048 ≤ c ∧ c < 65536 ∧ ¬ (55296 ≤ c ∧ c ≤ 57343) ∧ a.toNat = 224 + c / 4096 ∧ b.toNat = 128 + c / 64 % 64 ∧ d.toNat = 128 + c % 64) := by
  have := a.toNat_lt
  unfold enc01 encR encN
  repeat' split
  all_goals simp only [List.map_cons, List.map_nil, List.cons.injEq, and_true, reduceCtorEq, and_false, false_iff, not_and, List.nil_eq, false_and]
  all_goals try omega
  all_goals (repeat rw [ofNat_eq (by omega)])
  all_goals omega
theorem enc_four (c : Nat) (a b d e : UInt8) : enc01 c = [a, b, d, e] ↔ (65536 ≤ c ∧ c ≤ 1114111 ∧ a.toNat = 240 + c / 262144 ∧ b.toNat = 128 + c / 4096 % 64 ∧ d.toNat = 128 + c / 64 % 64 ∧ e.toNat = 128 + c % 64) := by
  have := a.toNat_lt
  unfold enc01 encR encN
  repeat' split
  all_goals simp only [List.map_cons, List.map_nil, List.cons.injEq, and_true, reduceCtorEq, and_false, false_iff, not_and, List.nil_eq, false_and]
  all_goals try omega
  all_goals (repeat rw [ofNat_eq (by omega)])
  all_goals omega

/-- The rest of a rune, after the first byte. -/
def contC (l : List UInt8) (r : Nat) : Nat → Nat
  | 0 => r
  | k + 1 => contC l r k * 64 + bN l (k + 1) % 64
def headC (n b : Nat) : Nat := if n = 2 then b % 32 else if n = 3 then b % 16 else if n = 4 then b % 8 else b
def candC (l : List UInt8) (n : Nat) : Nat := contC l (headC n (bN l 0)) (n - 1)
def scanD (l : List UInt8) : Nat → Nat → Nat × Nat
  | 0, _ => (0, 0)
  | k + 1, n => if n ≤ 4 ∧ n ≤ l.length then (if enc01 (candC l n) = l.take n then (candC l n, n) else scanD l k (n + 1)) else (0, 0)

theorem cand1 (l : List UInt8) : candC l 1 = bN l 0 := rfl
theorem cand2 (l : List UInt8) : candC l 2 = bN l 0 % 32 * 64 + bN l 1 % 64 := rfl
theorem cand3 (l : List UInt8) : candC l 3 = (bN l 0 % 16 * 64 + bN l 1 % 64) * 64 + bN l 2 % 64 := rfl
theorem cand4 (l : List UInt8) : candC l 4 = ((bN l 0 % 8 * 64 + bN l 1 % 64) * 64 + bN l 2 % 64) * 64 + bN l 3 % 64 := rfl

/-- 'decT', told by its ways. -/
def decW (n b0 b1 b2 b3 : Nat) : Nat × Nat :=
  if b0 < 128 then (b0, 1)
  else if b0 / 32 = 6 then (if (1 < n ∧ b1 / 64 = 2) ∧ b0 % 32 * 64 + b1 % 64 ≥ 128 then (b0 % 32 * 64 + b1 % 64, 2) else (0, 0))
  else if b0 / 16 = 14 then (if (1 < n ∧ b1 / 64 = 2) ∧ (2 < n ∧ b2 / 64 = 2) ∧ b0 % 16 * 4096 + b1 % 64 * 64 + b2 % 64 ≥ 2048 ∧ (b0 % 16 * 4096 + b1 % 64 * 64 + b2 % 64 < 55296 ∨ 57344 ≤ b0 % 16 * 4096 + b1 % 64 * 64 + b2 % 64)
     then (b0 % 16 * 4096 + b1 % 64 * 64 + b2 % 64, 3) else (0, 0))
  else if b0 / 8 = 30 then (if (1 < n ∧ b1 / 64 = 2) ∧ (2 < n ∧ b2 / 64 = 2) ∧ (3 < n ∧ b3 / 64 = 2) ∧ b0 % 8 * 262144 + b1 % 64 * 4096 + b2 % 64 * 64 + b3 % 64 ≥ 65536 ∧ b0 % 8 * 262144 + b1 % 64 * 4096 + b2 % 64 * 64 + b3 % 64 ≤ 1114111
     then (b0 % 8 * 262144 + b1 % 64 * 4096 + b2 % 64 * 64 + b3 % 64, 4) else (0, 0))
  else (0, 0)
theorem pair3 {x : Nat} : ((x, 3) = ((65533, 1) : Nat × Nat)) = False := by simp
theorem pair4 {x : Nat} : ((x, 4) = ((65533, 1) : Nat × Nat)) = False := by simp
theorem decT_W (l : List UInt8) (h : l ≠ []) : decT l = decW l.length (bN l 0) (bN l 1) (bN l 2) (bN l 3) := by
  have l0 := bN_lt l 0
  have l1 := bN_lt l 1
  have l2 := bN_lt l 2
  have l3 := bN_lt l 3
  rw [decT, if_neg h, decS, Lib.decodeN, decW]
  generalize bN l 0 = A at *
  generalize bN l 1 = B at *
  generalize bN l 2 = C at *
  generalize bN l 3 = D at *
  generalize l.length = n at *
  by_cases h1 : A < 128
  · simp only [if_pos h1]
    rw [if_neg (by simp; omega)]
  simp only [if_neg h1]
  by_cases h2 : A / 32 = 6
  · simp only [if_pos h2, show ¬ A / 16 = 14 by omega, show ¬ A / 8 = 30 by omega, false_and, if_false, h2, true_and]
    by_cases h3 : 1 < n ∧ B / 64 = 2
    · simp only [if_pos h3, h3, true_and]
      by_cases h4 : A % 32 * 64 + B % 64 ≥ 128
      · simp [h4]
      · simp [h4]
    · simp only [if_neg h3, h3, false_and, if_false]
      rfl
  simp only [if_neg h2, h2, false_and, if_false]
  by_cases h5 : A / 16 = 14
  · simp only [if_pos h5, show ¬ A / 8 = 30 by omega, false_and, if_false, h5, true_and]
    by_cases h3 : (1 < n ∧ B / 64 = 2) ∧ 2 < n ∧ C / 64 = 2
    · simp only [if_pos h3]
      by_cases h4 : A % 16 * 4096 + B % 64 * 64 + C % 64 ≥ 2048 ∧ (A % 16 * 4096 + B % 64 * 64 + C % 64 < 55296 ∨ 57344 ≤ A % 16 * 4096 + B % 64 * 64 + C % 64 ∧ A % 16 * 4096 + B % 64 * 64 + C % 64 ≤ 1114111)
      · simp only [if_pos h4, pair3, if_false]
        exact (if_pos ⟨h3.1, h3.2, h4.1, by omega⟩).symm
      · simp only [if_neg h4, if_true]
        exact (if_neg (by omega)).symm
    · simp only [if_neg h3, if_true]
      exact (if_neg (fun e => h3 ⟨e.1, e.2.1⟩)).symm
  simp only [if_neg h5, h5, false_and, if_false]
  by_cases h6 : A / 8 = 30
  · simp only [if_pos h6, h6, true_and]
    by_cases h3 : (1 < n ∧ B / 64 = 2) ∧ (2 < n ∧ C / 64 = 2) ∧ 3 < n ∧ D / 64 = 2
    · simp only [if_pos h3]
      by_cases h4 : A % 8 * 262144 + B % 64 * 4096 + C % 64 * 64 + D % 64 ≥ 65536 ∧ (A % 8 * 262144 + B % 64 * 4096 + C % 64 * 64 + D % 64 < 55296 ∨ 57344 ≤ A % 8 * 262144 + B % 64 * 4096 + C % 64 * 64 + D % 64 ∧ A % 8 * 262144 + B % 64 * 4096 + C % 64 * 64 + D % 64 ≤ 1114111)
      · simp only [if_pos h4, pair4, if_false]
        exact (if_pos ⟨h3.1, h3.2.1, h3.2.2, h4.1, by omega⟩).symm
      · simp only [if_neg h4, if_true]
        exact (if_neg (by omega)).symm
    · simp only [if_neg h3, if_true]
      exact (if_neg (fun e => h3 ⟨e.1, e.2.1, e.2.2.1⟩)).symm
  · simp only [if_neg h6, h6, false_and, if_false, if_true]

theorem scanD_none (l : List UInt8) : ∀ (k n : Nat), l.length < n → scanD l k n = (0, 0)
  | 0, _, _ => rfl
  | k + 1, n, h => by rw [scanD, if_neg (by omega)]
theorem scanD_step {l : List UInt8} {k n : Nat} {P : Prop} [Decidable P] (hn : n ≤ 4) (hT : n ≤ l.length → (enc01 (candC l n) = l.take n ↔ P)) : scanD l (k + 1) n = if n ≤ l.length ∧ P then (candC l n, n) else scanD l k (n + 1) := by
  rw [scanD]
  by_cases h : n ≤ l.length
  · rw [if_pos ⟨hn, h⟩]
    by_cases hp : P
    · rw [if_pos ((hT h).2 hp), if_pos ⟨h, hp⟩]
    · rw [if_neg (fun e => hp ((hT h).1 e)), if_neg (fun e => hp e.2)]
  · rw [if_neg (fun e => h e.2), if_neg (fun e => h e.1), scanD_none l k _ (by omega)]
theorem take1 {l : List UInt8} (h : 1 ≤ l.length) : ∃ a, l.take 1 = [a] ∧ a.toNat = bN l 0 := by
  match l, h with
  | a :: r, _ => exact ⟨a, rfl, rfl⟩
theorem take2 {l : List UInt8} (h : 2 ≤ l.length) : ∃ a b, l.take 2 = [a, b] ∧ a.toNat = bN l 0 ∧ b.toNat = bN l 1 := by
  match l, h with
  | a :: b :: r, _ => exact ⟨a, b, rfl, rfl, rfl⟩
theorem take3 {l : List UInt8} (h : 3 ≤ l.length) : ∃ a b c, l.take 3 = [a, b, c] ∧ a.toNat = bN l 0 ∧ b.toNat = bN l 1 ∧ c.toNat = bN l 2 := by
  match l, h with
  | a :: b :: c :: r, _ => exact ⟨a, b, c, rfl, rfl, rfl, rfl⟩
theorem take4 {l : List UInt8} (h : 4 ≤ l.length) : ∃ a b c d, l.take 4 = [a, b, c, d] ∧ a.toNat = bN l 0 ∧ b.toNat = bN l 1 ∧ c.toNat = bN l 2 ∧ d.toNat = bN l 3 := by
  match l, h with
  | a :: b :: c :: d :: r, _ => exact ⟨a, b, c, d, rfl, rfl, rfl, rfl, rfl⟩

theorem scan_decT (l : List UInt8) : scanD l 4 1 = decT l := by
  by_cases hl : l = []
  · subst hl; rfl
  have hp : 0 < l.length := List.length_pos_iff.2 hl
  have l0 := bN_lt l 0
  have l1 := bN_lt l 1
  have l2 := bN_lt l 2
  have l3 := bN_lt l 3
  rw [decT_W l hl]
  rw [scanD_step (P := bN l 0 < 128) (by omega) (fun h => by obtain ⟨a, e, ea⟩ := take1 h; rw [e, enc_one, cand1, ea]; omega)]
  rw [scanD_step (P := bN l 0 / 32 = 6 ∧ bN l 1 / 64 = 2 ∧ bN l 0 % 32 * 64 + bN l 1 % 64 ≥ 128) (by omega) (fun h => by obtain ⟨a, b, e, ea, eb⟩ := take2 h; rw [e, enc_two, cand2, ea, eb]; omega)]
  rw [scanD_step (P := bN l 0 / 16 = 14 ∧ bN l 1 / 64 = 2 ∧ bN l 2 / 64 = 2 ∧ bN l 0 % 16 * 4096 + bN l 1 % 64 * 64 + bN l 2 % 64 ≥ 2048 ∧ (bN l 0 % 16 * 4096 + bN l 1 % 64 * 64 + bN l 2 % 64 < 55296 ∨ 57344 ≤ bN l 0 % 16 * 4096 + bN l 1 % 64 * 64 + bN l 2 % 64)) (by omega) (fun h => by obtain ⟨a, b, c, e, ea, eb, ec⟩ := take3 h; rw [e, enc_three, cand3, ea, eb, ec]; omega)]
  rw [scanD_step (P := bN l 0 / 8 = 30 ∧ bN l 1 / 64 = 2 ∧ bN l 2 / 64 = 2 ∧ bN l 3 / 64 = 2 ∧ bN l 0 % 8 * 262144 + bN l 1 % 64 * 4096 + bN l 2 % 64 * 64 + bN l 3 % 64 ≥ 65536 ∧ bN l 0 % 8 * 262144 + bN l 1 % 64 * 4096 + bN l 2 % 64 * 64 + bN l 3 % 64 ≤ 1114111) (by omega) (fun h => by obtain ⟨a, b, c, d, e, ea, eb, ec, ed⟩ := take4 h; rw [e, enc_four, cand4, ea, eb, ec, ed]; omega)]
  rw [cand1, cand2, cand3, cand4, scanD, decW]
  generalize bN l 0 = A at *
  generalize bN l 1 = B at *
  generalize bN l 2 = C at *
  generalize bN l 3 = D at *
  generalize l.length = n at *
  by_cases h1 : A < 128
  · rw [if_pos ⟨hp, h1⟩, if_pos h1]
  rw [if_neg (fun e => h1 e.2), if_neg h1]
  by_cases h2 : A / 32 = 6
  · rw [if_pos h2]
    by_cases h3 : (1 < n ∧ B / 64 = 2) ∧ A % 32 * 64 + B % 64 ≥ 128
    · rw [if_pos h3, if_pos (by omega)]
    · rw [if_neg h3, if_neg (by omega), if_neg (by omega), if_neg (by omega)]
  rw [if_neg (fun e => h2 e.2.1), if_neg h2]
  by_cases h4 : A / 16 = 14
  · rw [if_pos h4]
    by_cases h3 : (1 < n ∧ B / 64 = 2) ∧ (2 < n ∧ C / 64 = 2) ∧ A % 16 * 4096 + B % 64 * 64 + C % 64 ≥ 2048 ∧ (A % 16 * 4096 + B % 64 * 64 + C % 64 < 55296 ∨ 57344 ≤ A % 16 * 4096 + B % 64 * 64 + C % 64)
    · rw [if_pos h3, if_pos ⟨by omega, h4, h3.1.2, h3.2.1.2, h3.2.2.1, h3.2.2.2⟩]
      refine Prod.ext ?_ rfl
      dsimp only
      omega
    · rw [if_neg h3, if_neg (fun e => h3 ⟨⟨by omega, e.2.2.1⟩, ⟨by omega, e.2.2.2.1⟩, by omega, by omega⟩), if_neg (fun e => by omega)]
  rw [if_neg (fun e => h4 e.2.1), if_neg h4]
  by_cases h5 : A / 8 = 30
  · rw [if_pos h5]
    by_cases h3 : (1 < n ∧ B / 64 = 2) ∧ (2 < n ∧ C / 64 = 2) ∧ (3 < n ∧ D / 64 = 2) ∧ A % 8 * 262144 + B % 64 * 4096 + C % 64 * 64 + D % 64 ≥ 65536 ∧ A % 8 * 262144 + B % 64 * 4096 + C % 64 * 64 + D % 64 ≤ 1114111
    · rw [if_pos h3, if_pos ⟨by omega, h5, h3.1.2, h3.2.1.2, h3.2.2.1.2, h3.2.2.2.1, h3.2.2.2.2⟩]
      refine Prod.ext ?_ rfl
      dsimp only
      omega
    · rw [if_neg h3, if_neg (fun e => h3 ⟨⟨by omega, e.2.2.1⟩, ⟨by omega, e.2.2.2.1⟩, ⟨by omega, e.2.2.2.2.1⟩, by omega, by omega⟩)]
  rw [if_neg (fun e => h5 e.2.1), if_neg h5]

theorem bN_drop (s : List UInt8) (i k : Nat) : bN (s.drop i) k = bN s (i + k) := by
  simp [bN, List.getD_eq_getElem?_getD, List.getElem?_drop]
theorem contC_lt (l : List UInt8) {r : Nat} (hr : r < 256) : ∀ k, k ≤ 3 → contC l r k < 256 * 64 ^ k + 64 ^ k
  | 0, _ => by simp [contC]; omega
  | k + 1, h => by
    have := contC_lt l hr k (by omega)
    rw [contC, Nat.pow_succ]
    have : contC l r k * 64 + bN l (k + 1) % 64 < (contC l r k + 1) * 64 := by omega
    refine Nat.lt_of_lt_of_le this ?_
    have := Nat.mul_le_mul_right 64 (show contC l r k + 1 ≤ 256 * 64 ^ k + 64 ^ k by omega)
    refine Nat.le_trans this ?_
    rw [Nat.add_mul, Nat.mul_assoc]
    exact Nat.le_refl _
theorem contC_lt' (l : List UInt8) {r : Nat} (hr : r < 256) {k : Nat} (hk : k ≤ 3) : contC l r k < 268435456 := by
  have := contC_lt l hr k hk
  have hp : 64 ^ k ≤ 64 ^ 3 := Nat.pow_le_pow_right (by omega) hk
  have : (64 : Nat) ^ 3 = 262144 := by decide
  omega
theorem headC_lt (n : Nat) {b : Nat} (h : b < 256) : headC n b < 256 := by
  unfold headC
  repeat' split
  all_goals omega

theorem r01Decode_C {s : List UInt8} {i : Nat} {σ : St} {Q : Out → St → Prop} (hs : s.length ≤ big) (hi : i < 4294967300) (h : Q (.ret (.tup [.int .i64 ((decT (s.drop i)).1 : Int), .int .i64 ((decT (s.drop i)).2 : Int)])) σ) : C Xc 52 [.str s, .int .i64 (i : Int)] σ Q := by
  unfold big at hs
  refine body cf_r01Decode (Eq.refl true) ?_
  have n0 : decide ((i : Int) < 0) = false := decide_eq_false (by omega)
  simp -implicitDefEqProofs only [vf_r01Decode, n0, wset, tailW, tailEnd, isLenV, isOneV, vop, vbin, vbinI, vun, ↓reduceIte, Nat.reduceEqDiff, Nat.reduceAdd, vcells, vcut, cutSK, cutVK, cutNK, fillV, spl, Nat.reduceLeDiff, V.isNil, bne_self_eq_false]
  refine chooseK_split (fun h1 => ?_) (fun h1 => ?_) <;> simp -implicitDefEqProofs only [h1, wset, tailW, tailEnd, isLenV, isOneV, vop, vbin, vbinI, vun, ↓reduceIte, Nat.reduceEqDiff, Nat.reduceAdd, vcells, vcut, cutSK, cutVK, cutNK, fillV, spl, Nat.reduceLeDiff, V.isNil, bne_self_eq_false]
  · rw [List.drop_of_length_le (by simp at h1; omega)] at h
    exact .inl h
  have hil : i < s.length := by simp at h1; omega
  rw [← scan_decT] at h
  have hl : (s.drop i).length = s.length - i := List.length_drop
  have hb : ∀ k, bN (s.drop i) k = bN s (i + k) := bN_drop s i
  have hcut : ∀ n, cut s i (i + n) = (s.drop i).take n := fun n => by rw [cut, List.drop_take, Nat.add_sub_cancel_left]
  generalize s.drop i = l at *
  refine LoopP.intro (fun n0 fr σ' => ∃ n : Nat, 1 ≤ n ∧ n ≤ 5 ∧ n0 = 5 - n ∧ scanD l 4 1 = scanD l (5 - n) n ∧ fr 0 = .str s ∧ fr 1 = .int .i64 (i : Int) ∧ fr 6 = .int .i64 (n : Int) ∧ σ = σ') 4 ?_ ?_
  · exact ⟨1, by omega, by omega, rfl, rfl, rfl, rfl, rfl, rfl⟩
  rintro n0 fr σ' ⟨n, hn1, hn5, rfl, hsc, f0, f1, f6, rfl⟩
  have wl : IntKind.wrap .i64 ((s.length : Int) - (i : Int)) = ((s.length - i : Nat) : Int) := by rw [wrap64 (by omega)]; omega
  simp -implicitDefEqProofs only [f0, f1, f6, wl, wset, tailW, tailEnd, isLenV, isOneV, vop, vbin, vbinI, vun, ↓reduceIte, Nat.reduceEqDiff, Nat.reduceAdd, vcells, vcut, cutSK, cutVK, cutNK, fillV, spl, Nat.reduceLeDiff, V.isNil, bne_self_eq_false]
  refine chooseK_split (fun g1 => ?_) (fun g1 => ?_) <;> simp -implicitDefEqProofs only [g1, f0, f1, f6, wl, wset, tailW, tailEnd, isLenV, isOneV, vop, vbin, vbinI, vun, ↓reduceIte, Nat.reduceEqDiff, Nat.reduceAdd, vcells, vcut, cutSK, cutVK, cutNK, fillV, spl, Nat.reduceLeDiff, V.isNil, bne_self_eq_false]
  rotate_left
  · have : n = 5 := by simp at g1; omega
    subst this
    rw [hsc] at h
    exact .inl h
  have hn4 : n ≤ 4 := by simp at g1; omega
  obtain ⟨k, hk⟩ : ∃ k, 5 - n = k + 1 := ⟨4 - n, by omega⟩
  rw [hk] at hsc
  have hsd : scanD l (k + 1) n = if n ≤ 4 ∧ n ≤ l.length then (if enc01 (candC l n) = l.take n then (candC l n, n) else scanD l k (n + 1)) else (0, 0) := by rw [scanD]
  rw [hsd] at hsc
  obtain rfl : k = 4 - n := by omega
  clear hsd
  refine chooseK_split (fun g2 => ?_) (fun g2 => ?_) <;> simp -implicitDefEqProofs only [g2, f0, f1, f6, wl, wset, tailW, tailEnd, isLenV, isOneV, vop, vbin, vbinI, vun, ↓reduceIte, Nat.reduceEqDiff, Nat.reduceAdd, vcells, vcut, cutSK, cutVK, cutNK, fillV, spl, Nat.reduceLeDiff, V.isNil, bne_self_eq_false]
  rotate_left
  · rw [hsc, if_neg (by simp at g2; omega)] at h
    exact .inl h
  have hnl : n ≤ l.length := by simp at g2; omega
  rw [if_pos ⟨hn4, hnl⟩] at hsc
  refine ⟨by omega, ?_⟩
  have hb0 : ((s.getD i 0).toNat : Int) = (bN l 0 : Int) := by rw [hb 0]; rfl
  have hb8 : bN l 0 < 256 := bN_lt l 0
  rw [hb0, wrap64 (by omega)]
  have m32 : (bN l 0 : Int).tmod 32 = ((bN l 0 % 32 : Nat) : Int) := tmodN _ 32
  have m16 : (bN l 0 : Int).tmod 16 = ((bN l 0 % 16 : Nat) : Int) := tmodN _ 16
  have m8 : (bN l 0 : Int).tmod 8 = ((bN l 0 % 8 : Nat) : Int) := tmodN _ 8
  have ne32 : ((32 : Int) ≠ 0) = True := by simp
  have ne16 : ((16 : Int) ≠ 0) = True := by simp
  have ne8 : ((8 : Int) ≠ 0) = True := by simp
  have wi : ∀ k : Nat, k ≤ 8 → IntKind.wrap .i64 ((i : Int) + (k : Int)) = ((i + k : Nat) : Int) := fun k hk => by rw [wrap64 (by omega)]; omega
  have hn' : n = 1 ∨ n = 2 ∨ n = 3 ∨ n = 4 := by omega
  rcases hn' with rfl | rfl | rfl | rfl
  · have q2 : (((1 : Nat) : Int) == 2) = false := rfl
    have q3 : (((1 : Nat) : Int) == 3) = false := rfl
    have q4 : (((1 : Nat) : Int) == 4) = false := rfl
    simp -implicitDefEqProofs only [f0, f1, f6, q2, q3, q4, m32, m16, m8, ne32, ne16, ne8, wset, tailW, tailEnd, isLenV, isOneV, vop, vbin, vbinI, vun, ↓reduceIte, Nat.reduceEqDiff, Nat.reduceAdd, vcells, vcut, cutSK, cutVK, cutNK, fillV, spl, Nat.reduceLeDiff, V.isNil, bne_self_eq_false]
    refine LoopP.intro (fun n0 fr σ' => ∃ k : Nat, k + 1 ≤ 1 ∧ n0 = 1 - k ∧ fr 0 = .str s ∧ fr 1 = .int .i64 (i : Int) ∧ fr 6 = .int .i64 ((1 : Nat) : Int) ∧ fr 7 = .int .i64 ((contC l (headC 1 (bN l 0)) k : Nat) : Int) ∧ fr 8 = .int .i64 ((k + 1 : Nat) : Int) ∧ σ = σ') 1 ?_ ?_
    · exact ⟨0, by omega, rfl, f0, f1, f6, rfl, rfl, rfl⟩
    clear f0 f1 f6
    rintro n0 fr σ' ⟨k, hk1, rfl, f0, f1, f6, f7, f8, rfl⟩
    simp -implicitDefEqProofs only [f0, f1, f6, f7, f8, wset, tailW, tailEnd, isLenV, isOneV, vop, vbin, vbinI, vun, ↓reduceIte, Nat.reduceEqDiff, Nat.reduceAdd, vcells, vcut, cutSK, cutVK, cutNK, fillV, spl, Nat.reduceLeDiff, V.isNil, bne_self_eq_false]
    have hc := contC_lt' l (headC_lt 1 hb8) (k := k) (by omega)
    refine chooseK_split (fun g3 => ?_) (fun g3 => ?_) <;> simp -implicitDefEqProofs only [g3, f0, f1, f6, f7, f8, wset, tailW, tailEnd, isLenV, isOneV, vop, vbin, vbinI, vun, ↓reduceIte, Nat.reduceEqDiff, Nat.reduceAdd, vcells, vcut, cutSK, cutVK, cutNK, fillV, spl, Nat.reduceLeDiff, V.isNil, bne_self_eq_false]
    · have hk2 : k + 1 < 1 := by simp at g3; omega
      rw [wi (k + 1) (by omega)]
      refine ⟨by omega, by omega, ?_⟩
      have hbk : ((s.getD ((i + (k + 1) : Nat) : Int).toNat 0).toNat : Int) = (bN l (k + 1) : Int) := by
        rw [hb (k + 1), Int.toNat_natCast]; rfl
      have hb9 : bN l (k + 1) < 256 := bN_lt l _
      rw [hbk]
      refine ⟨1 - (k + 1), by omega, k + 1, by omega, rfl, f0, f1, f6, ?_, ?_, rfl⟩
      · show V.int .i64 _ = _
        congr 1
        have e1 := tmodN (bN l (k + 1)) 64
        have e2 : IntKind.wrap .i64 (bN l (k + 1) : Int) = (bN l (k + 1) : Int) := wrap64 (by omega)
        have e3 : IntKind.wrap .i64 ((contC l (headC 1 (bN l 0)) k : Int) * 64) = ((contC l (headC 1 (bN l 0)) k * 64 : Nat) : Int) := by rw [wrap64 (by omega)]; omega
        rw [e2, e3]
        rw [show (64 : Int) = ((64 : Nat) : Int) from rfl, e1, wrap64 (by omega), contC]
        omega
      · show V.int .i64 _ = _
        congr 1
        rw [wrap64 (by omega)]; omega
    · have hk3 : k + 1 = 1 := by simp at g3; omega
      obtain rfl : k = 1 - 1 := by omega
      have wN : IntKind.wrap .i64 ((i : Int) + ((1 : Nat) : Int)) = ((i + 1 : Nat) : Int) := wi 1 (by omega)
      rw [wN]
      refine ⟨by omega, by omega, ?_⟩
      refine r01Encode_C (r := contC l (headC 1 (bN l 0)) (1 - 1)) (by omega) ?_
      simp -implicitDefEqProofs only [f0, f1, f6, f7, f8, wN, hcut, wset, tailW, tailEnd, isLenV, isOneV, vop, vbin, vbinI, vun, ↓reduceIte, Nat.reduceEqDiff, Nat.reduceAdd, vcells, vcut, cutSK, cutVK, cutNK, fillV, spl, Nat.reduceLeDiff, V.isNil, bne_self_eq_false]
      refine ⟨⟨by omega, by omega⟩, ?_⟩
      refine chooseK_split (fun g4 => ?_) (fun g4 => ?_) <;> simp -implicitDefEqProofs only [g4, f0, f1, f6, f7, f8, wset, tailW, tailEnd, isLenV, isOneV, vop, vbin, vbinI, vun, ↓reduceIte, Nat.reduceEqDiff, Nat.reduceAdd, vcells, vcut, cutSK, cutVK, cutNK, fillV, spl, Nat.reduceLeDiff, V.isNil, bne_self_eq_false]
      · have g4' : enc01 (candC l 1) = l.take 1 := eq_of_beq g4
        rw [if_pos g4'] at hsc
        rw [hsc] at h
        exact .inl h
      · have g4' : ¬ enc01 (candC l 1) = l.take 1 := ne_of_beq_false g4
        rw [if_neg g4'] at hsc
        rw [wrap64 (by omega)]
        exact ⟨5 - (1 + 1), by omega, 1 + 1, by omega, by omega, rfl, hsc, f0, f1, rfl, rfl⟩
  · have q2 : (((2 : Nat) : Int) == 2) = true := rfl
    have q3 : (((2 : Nat) : Int) == 3) = false := rfl
    have q4 : (((2 : Nat) : Int) == 4) = false := rfl
    simp -implicitDefEqProofs only [f0, f1, f6, q2, q3, q4, m32, m16, m8, ne32, ne16, ne8, wset, tailW, tailEnd, isLenV, isOneV, vop, vbin, vbinI, vun, ↓reduceIte, Nat.reduceEqDiff, Nat.reduceAdd, vcells, vcut, cutSK, cutVK, cutNK, fillV, spl, Nat.reduceLeDiff, V.isNil, bne_self_eq_false]
    refine LoopP.intro (fun n0 fr σ' => ∃ k : Nat, k + 1 ≤ 2 ∧ n0 = 2 - k ∧ fr 0 = .str s ∧ fr 1 = .int .i64 (i : Int) ∧ fr 6 = .int .i64 ((2 : Nat) : Int) ∧ fr 7 = .int .i64 ((contC l (headC 2 (bN l 0)) k : Nat) : Int) ∧ fr 8 = .int .i64 ((k + 1 : Nat) : Int) ∧ σ = σ') 2 ?_ ?_
    · exact ⟨0, by omega, rfl, f0, f1, f6, rfl, rfl, rfl⟩
    clear f0 f1 f6
    rintro n0 fr σ' ⟨k, hk1, rfl, f0, f1, f6, f7, f8, rfl⟩
    simp -implicitDefEqProofs only [f0, f1, f6, f7, f8, wset, tailW, tailEnd, isLenV, isOneV, vop, vbin, vbinI, vun, ↓reduceIte, Nat.reduceEqDiff, Nat.reduceAdd, vcells, vcut, cutSK, cutVK, cutNK, fillV, spl, Nat.reduceLeDiff, V.isNil, bne_self_eq_false]
    have hc := contC_lt' l (headC_lt 2 hb8) (k := k) (by omega)
    refine chooseK_split (fun g3 => ?_) (fun g3 => ?_) <;> simp -implicitDefEqProofs only [g3, f0, f1, f6, f7, f8, wset, tailW, tailEnd, isLenV, isOneV, vop, vbin, vbinI, vun, ↓reduceIte, Nat.reduceEqDiff, Nat.reduceAdd, vcells, vcut, cutSK, cutVK, cutNK, fillV, spl, Nat.reduceLeDiff, V.isNil, bne_self_eq_false]
    · have hk2 : k + 1 < 2 := by simp at g3; omega
      rw [wi (k + 1) (by omega)]
      refine ⟨by omega, by omega, ?_⟩
      have hbk : ((s.getD ((i + (k + 1) : Nat) : Int).toNat 0).toNat : Int) = (bN l (k + 1) : Int) := by
        rw [hb (k + 1), Int.toNat_natCast]; rfl
      have hb9 : bN l (k + 1) < 256 := bN_lt l _
      rw [hbk]
      refine ⟨2 - (k + 1), by omega, k + 1, by omega, rfl, f0, f1, f6, ?_, ?_, rfl⟩
      · show V.int .i64 _ = _
        congr 1
        have e1 := tmodN (bN l (k + 1)) 64
        have e2 : IntKind.wrap .i64 (bN l (k + 1) : Int) = (bN l (k + 1) : Int) := wrap64 (by omega)
        have e3 : IntKind.wrap .i64 ((contC l (headC 2 (bN l 0)) k : Int) * 64) = ((contC l (headC 2 (bN l 0)) k * 64 : Nat) : Int) := by rw [wrap64 (by omega)]; omega
        rw [e2, e3]
        rw [show (64 : Int) = ((64 : Nat) : Int) from rfl, e1, wrap64 (by omega), contC]
        omega
      · show V.int .i64 _ = _
        congr 1
        rw [wrap64 (by omega)]; omega
    · have hk3 : k + 1 = 2 := by simp at g3; omega
      obtain rfl : k = 2 - 1 := by omega
      have wN : IntKind.wrap .i64 ((i : Int) + ((2 : Nat) : Int)) = ((i + 2 : Nat) : Int) := wi 2 (by omega)
      rw [wN]
      refine ⟨by omega, by omega, ?_⟩
      refine r01Encode_C (r := contC l (headC 2 (bN l 0)) (2 - 1)) (by omega) ?_
      simp -implicitDefEqProofs only [f0, f1, f6, f7, f8, wN, hcut, wset, tailW, tailEnd, isLenV, isOneV, vop, vbin, vbinI, vun, ↓reduceIte, Nat.reduceEqDiff, Nat.reduceAdd, vcells, vcut, cutSK, cutVK, cutNK, fillV, spl, Nat.reduceLeDiff, V.isNil, bne_self_eq_false]
      refine ⟨⟨by omega, by omega⟩, ?_⟩
      refine chooseK_split (fun g4 => ?_) (fun g4 => ?_) <;> simp -implicitDefEqProofs only [g4, f0, f1, f6, f7, f8, wset, tailW, tailEnd, isLenV, isOneV, vop, vbin, vbinI, vun, ↓reduceIte, Nat.reduceEqDiff, Nat.reduceAdd, vcells, vcut, cutSK, cutVK, cutNK, fillV, spl, Nat.reduceLeDiff, V.isNil, bne_self_eq_false]
      · have g4' : enc01 (candC l 2) = l.take 2 := eq_of_beq g4
        rw [if_pos g4'] at hsc
        rw [hsc] at h
        exact .inl h
      · have g4' : ¬ enc01 (candC l 2) = l.take 2 := ne_of_beq_false g4
        rw [if_neg g4'] at hsc
        rw [wrap64 (by omega)]
        exact ⟨5 - (2 + 1), by omega, 2 + 1, by omega, by omega, rfl, hsc, f0, f1, rfl, rfl⟩
  · have q2 : (((3 : Nat) : Int) == 2) = false := rfl
    have q3 : (((3 : Nat) : Int) == 3) = true := rfl
    have q4 : (((3 : Nat) : Int) == 4) = false := rfl
    simp -implicitDefEqProofs only [f0, f1, f6, q2, q3, q4, m32, m16, m8, ne32, ne16, ne8, wset, tailW, tailEnd, isLenV, isOneV, vop, vbin, vbinI, vun, ↓reduceIte, Nat.reduceEqDiff, Nat.reduceAdd, vcells, vcut, cutSK, cutVK, cutNK, fillV, spl, Nat.reduceLeDiff, V.isNil, bne_self_eq_false]
    refine LoopP.intro (fun n0 fr σ' => ∃ k : Nat, k + 1 ≤ 3 ∧ n0 = 3 - k ∧ fr 0 = .str s ∧ fr 1 = .int .i64 (i : Int) ∧ fr 6 = .int .i64 ((3 : Nat) : Int) ∧ fr 7 = .int .i64 ((contC l (headC 3 (bN l 0)) k : Nat) : Int) ∧ fr 8 = .int .i64 ((k + 1 : Nat) : Int) ∧ σ = σ') 3 ?_ ?_
    · exact ⟨0, by omega, rfl, f0, f1, f6, rfl, rfl, rfl⟩
    clear f0 f1 f6
    rintro n0 fr σ' ⟨k, hk1, rfl, f0, f1, f6, f7, f8, rfl⟩
    simp -implicitDefEqProofs only [f0, f1, f6, f7, f8, wset, tailW, tailEnd, isLenV, isOneV, vop, vbin, vbinI, vun, ↓reduceIte, Nat.reduceEqDiff, Nat.reduceAdd, vcells, vcut, cutSK, cutVK, cutNK, fillV, spl, Nat.reduceLeDiff, V.isNil, bne_self_eq_false]
    have hc := contC_lt' l (headC_lt 3 hb8) (k := k) (by omega)
    refine chooseK_split (fun g3 => ?_) (fun g3 => ?_) <;> simp -implicitDefEqProofs only [g3, f0, f1, f6, f7, f8, wset, tailW, tailEnd, isLenV, isOneV, vop, vbin, vbinI, vun, ↓reduceIte, Nat.reduceEqDiff, Nat.reduceAdd, vcells, vcut, cutSK, cutVK, cutNK, fillV, spl, Nat.reduceLeDiff, V.isNil, bne_self_eq_false]
    · have hk2 : k + 1 < 3 := by simp at g3; omega
      rw [wi (k + 1) (by omega)]
      refine ⟨by omega, by omega, ?_⟩
      have hbk : ((s.getD ((i + (k + 1) : Nat) : Int).toNat 0).toNat : Int) = (bN l (k + 1) : Int) := by
        rw [hb (k + 1), Int.toNat_natCast]; rfl
      have hb9 : bN l (k + 1) < 256 := bN_lt l _
      rw [hbk]
      refine ⟨3 - (k + 1), by omega, k + 1, by omega, rfl, f0, f1, f6, ?_, ?_, rfl⟩
      · show V.int .i64 _ = _
        congr 1
        have e1 := tmodN (bN l (k + 1)) 64
        have e2 : IntKind.wrap .i64 (bN l (k + 1) : Int) = (bN l (k + 1) : Int) := wrap64 (by omega)
        have e3 : IntKind.wrap .i64 ((contC l (headC 3 (bN l 0)) k : Int) * 64) = ((contC l (headC 3 (bN l 0)) k * 64 : Nat) : Int) := by rw [wrap64 (by omega)]; omega
        rw [e2, e3]
        rw [show (64 : Int) = ((64 : Nat) : Int) from rfl, e1, wrap64 (by omega), contC]
        omega
      · show V.int .i64 _ = _
        congr 1
        rw [wrap64 (by omega)]; omega
    · have hk3 : k + 1 = 3 := by simp at g3; omega
      obtain rfl : k = 3 - 1 := by omega
      have wN : IntKind.wrap .i64 ((i : Int) + ((3 : Nat) : Int)) = ((i + 3 : Nat) : Int) := wi 3 (by omega)
      rw [wN]
      refine ⟨by omega, by omega, ?_⟩
      refine r01Encode_C (r := contC l (headC 3 (bN l 0)) (3 - 1)) (by omega) ?_
      simp -implicitDefEqProofs only [f0, f1, f6, f7, f8, wN, hcut, wset, tailW, tailEnd, isLenV, isOneV, vop, vbin, vbinI, vun, ↓reduceIte, Nat.reduceEqDiff, Nat.reduceAdd, vcells, vcut, cutSK, cutVK, cutNK, fillV, spl, Nat.reduceLeDiff, V.isNil, bne_self_eq_false]
      refine ⟨⟨by omega, by omega⟩, ?_⟩
      refine chooseK_split (fun g4 => ?_) (fun g4 => ?_) <;> simp -implicitDefEqProofs only [g4, f0, f1, f6, f7, f8, wset, tailW, tailEnd, isLenV, isOneV, vop, vbin, vbinI, vun, ↓reduceIte, Nat.reduceEqDiff, Nat.reduceAdd, vcells, vcut, cutSK, cutVK, cutNK, fillV, spl, Nat.reduceLeDiff, V.isNil, bne_self_eq_false]
      · have g4' : enc01 (candC l 3) = l.take 3 := eq_of_beq g4
        rw [if_pos g4'] at hsc
        rw [hsc] at h
        exact .inl h
      · have g4' : ¬ enc01 (candC l 3) = l.take 3 := ne_of_beq_false g4
        rw [if_neg g4'] at hsc
        rw [wrap64 (by omega)]
        exact ⟨5 - (3 + 1), by omega, 3 + 1, by omega, by omega, rfl, hsc, f0, f1, rfl, rfl⟩
  · have q2 : (((4 : Nat) : Int) == 2) = false := rfl
    have q3 : (((4 : Nat) : Int) == 3) = false := rfl
    have q4 : (((4 : Nat) : Int) == 4) = true := rfl
    simp -implicitDefEqProofs only [f0, f1, f6, q2, q3, q4, m32, m16, m8, ne32, ne16, ne8, wset, tailW, tailEnd, isLenV, isOneV, vop, vbin, vbinI, vun, ↓reduceIte, Nat.reduceEqDiff, Nat.reduceAdd, vcells, vcut, cutSK, cutVK, cutNK, fillV, spl, Nat.reduceLeDiff, V.isNil, bne_self_eq_false]
    refine LoopP.intro (fun n0 fr σ' => ∃ k : Nat, k + 1 ≤ 4 ∧ n0 = 4 - k ∧ fr 0 = .str s ∧ fr 1 = .int .i64 (i : Int) ∧ fr 6 = .int .i64 ((4 : Nat) : Int) ∧ fr 7 = .int .i64 ((contC l (headC 4 (bN l 0)) k : Nat) : Int) ∧ fr 8 = .int .i64 ((k + 1 : Nat) : Int) ∧ σ = σ') 4 ?_ ?_
    · exact ⟨0, by omega, rfl, f0, f1, f6, rfl, rfl, rfl⟩
    clear f0 f1 f6
    rintro n0 fr σ' ⟨k, hk1, rfl, f0, f1, f6, f7, f8, rfl⟩
    simp -implicitDefEqProofs only [f0, f1, f6, f7, f8, wset, tailW, tailEnd, isLenV, isOneV, vop, vbin, vbinI, vun, ↓reduceIte, Nat.reduceEqDiff, Nat.reduceAdd, vcells, vcut, cutSK, cutVK, cutNK, fillV, spl, Nat.reduceLeDiff, V.isNil, bne_self_eq_false]
    have hc := contC_lt' l (headC_lt 4 hb8) (k := k) (by omega)
    refine chooseK_split (fun g3 => ?_) (fun g3 => ?_) <;> simp -implicitDefEqProofs only [g3, f0, f1, f6, f7, f8, wset, tailW, tailEnd, isLenV, isOneV, vop, vbin, vbinI, vun, ↓reduceIte, Nat.reduceEqDiff, Nat.reduceAdd, vcells, vcut, cutSK, cutVK, cutNK, fillV, spl, Nat.reduceLeDiff, V.isNil, bne_self_eq_false]
    · have hk2 : k + 1 < 4 := by simp at g3; omega
      rw [wi (k + 1) (by omega)]
      refine ⟨by omega, by omega, ?_⟩
      have hbk : ((s.getD ((i + (k + 1) : Nat) : Int).toNat 0).toNat : Int) = (bN l (k + 1) : Int) := by
        rw [hb (k + 1), Int.toNat_natCast]; rfl
      have hb9 : bN l (k + 1) < 256 := bN_lt l _
      rw [hbk]
      refine ⟨4 - (k + 1), by omega, k + 1, by omega, rfl, f0, f1, f6, ?_, ?_, rfl⟩
      · show V.int .i64 _ = _
        congr 1
        have e1 := tmodN (bN l (k + 1)) 64
        have e2 : IntKind.wrap .i64 (bN l (k + 1) : Int) = (bN l (k + 1) : Int) := wrap64 (by omega)
        have e3 : IntKind.wrap .i64 ((contC l (headC 4 (bN l 0)) k : Int) * 64) = ((contC l (headC 4 (bN l 0)) k * 64 : Nat) : Int) := by rw [wrap64 (by omega)]; omega
        rw [e2, e3]
        rw [show (64 : Int) = ((64 : Nat) : Int) from rfl, e1, wrap64 (by omega), contC]
        omega
      · show V.int .i64 _ = _
        congr 1
        rw [wrap64 (by omega)]; omega
    · have hk3 : k + 1 = 4 := by simp at g3; omega
      obtain rfl : k = 4 - 1 := by omega
      have wN : IntKind.wrap .i64 ((i : Int) + ((4 : Nat) : Int)) = ((i + 4 : Nat) : Int) := wi 4 (by omega)
      rw [wN]
      refine ⟨by omega, by omega, ?_⟩
      refine r01Encode_C (r := contC l (headC 4 (bN l 0)) (4 - 1)) (by omega) ?_
      simp -implicitDefEqProofs only [f0, f1, f6, f7, f8, wN, hcut, wset, tailW, tailEnd, isLenV, isOneV, vop, vbin, vbinI, vun, ↓reduceIte, Nat.reduceEqDiff, Nat.reduceAdd, vcells, vcut, cutSK, cutVK, cutNK, fillV, spl, Nat.reduceLeDiff, V.isNil, bne_self_eq_false]
      refine ⟨⟨by omega, by omega⟩, ?_⟩
      refine chooseK_split (fun g4 => ?_) (fun g4 => ?_) <;> simp -implicitDefEqProofs only [g4, f0, f1, f6, f7, f8, wset, tailW, tailEnd, isLenV, isOneV, vop, vbin, vbinI, vun, ↓reduceIte, Nat.reduceEqDiff, Nat.reduceAdd, vcells, vcut, cutSK, cutVK, cutNK, fillV, spl, Nat.reduceLeDiff, V.isNil, bne_self_eq_false]
      · have g4' : enc01 (candC l 4) = l.take 4 := eq_of_beq g4
        rw [if_pos g4'] at hsc
        rw [hsc] at h
        exact .inl h
      · have g4' : ¬ enc01 (candC l 4) = l.take 4 := ne_of_beq_false g4
        rw [if_neg g4'] at hsc
        rw [wrap64 (by omega)]
        exact ⟨5 - (4 + 1), by omega, 4 + 1, by omega, by omega, rfl, hsc, f0, f1, rfl, rfl⟩

end Go.Proofs.YtgdcdkgmeomhpaaGreatDoor

namespace Go.Proofs.YtgdcdkgmeomhpaaGreatDoor
open Go Go.Vs
set_option maxRecDepth 20000
attribute [local irreducible] chooseK

theorem hexF_step {l : List UInt8} {k a : Nat} (h : k < l.length) : hexF (l.drop k) a = match hexV (l.getD k 0) with | some d => hexF (l.drop (k + 1)) (a * 16 + d) | none => none := by
  rw [drop_getD 0 h, hexF]; rfl

def optI : Option Nat → Int
  | some n => n
  | none => -1

theorem digv1 {c : UInt8} (h1 : 48 ≤ c.toNat) (h2 : c.toNat ≤ 57) : hexV c = some (c.toNat - 48) := if_pos ⟨h1, h2⟩
theorem digv2 {c : UInt8} (h1 : 97 ≤ c.toNat) (h2 : c.toNat ≤ 102) : hexV c = some (c.toNat - 87) := by rw [hexV, if_neg (by omega), if_pos ⟨h1, h2⟩]
theorem digv3 {c : UInt8} (h1 : 65 ≤ c.toNat) (h2 : c.toNat ≤ 70) : hexV c = some (c.toNat - 55) := by rw [hexV, if_neg (by omega), if_neg (by omega), if_pos ⟨h1, h2⟩]
theorem digv0 {c : UInt8} (h1 : ¬ (48 ≤ c.toNat ∧ c.toNat ≤ 57)) (h2 : ¬ (97 ≤ c.toNat ∧ c.toNat ≤ 102)) (h3 : ¬ (65 ≤ c.toNat ∧ c.toNat ≤ 70)) : hexV c = none := by rw [hexV, if_neg h1, if_neg h2, if_neg h3]
theorem wu8 {c k : Nat} (h : k ≤ c) (hc : c < 256) : IntKind.wrap .i64 (IntKind.wrap .u8 ((c : Int) - (k : Int))) = ((c - k : Nat) : Int) := by
  rw [show (c : Int) - (k : Int) = ((c - k : Nat) : Int) by omega, wrapu8, Nat.mod_eq_of_lt (by omega), wrap64 (by omega)]

theorem r10hex_C {s : List UInt8} {i : Nat} {σ : St} {Q : Out → St → Prop} (hs : s.length ≤ big) (hi : i + 4 ≤ s.length) (h : Q (.ret (.int .i64 (optI (hexF ((s.drop i).take 4) 0)))) σ) : C Xc 82 [.str s, .int .i64 (i : Int)] σ Q := by
  unfold big at hs
  refine body cf_r10hex (Eq.refl true) ?_
  simp -implicitDefEqProofs only [vf_r10hex, wset, tailW, tailEnd, isLenV, isOneV, vop, vbin, vbinI, vun, ↓reduceIte, Nat.reduceEqDiff, Nat.reduceAdd, vcells, vcut, cutSK, cutVK, cutNK, fillV, spl, Nat.reduceLeDiff, V.isNil, bne_self_eq_false]
  rw [wrap64 (by omega), show decide ((s.length : Int) - (i : Int) < 4) = false from decide_eq_false (by omega)]
  simp -implicitDefEqProofs only [wset, tailW, tailEnd, isLenV, isOneV, vop, vbin, vbinI, vun, ↓reduceIte, Nat.reduceEqDiff, Nat.reduceAdd, vcells, vcut, cutSK, cutVK, cutNK, fillV, spl, Nat.reduceLeDiff, V.isNil, bne_self_eq_false]
  have hl : ((s.drop i).take 4).length = 4 := by simp; omega
  have hb : ∀ k, k < 4 → ((s.drop i).take 4).getD k 0 = s.getD (i + k) 0 := fun k hk => by
    simp [List.getD_eq_getElem?_getD, List.getElem?_take, List.getElem?_drop, hk]
  generalize (s.drop i).take 4 = l at *
  refine LoopP.intro (fun n0 fr σ' => ∃ k a : Nat, k ≤ 4 ∧ n0 = 4 - k ∧ hexF l 0 = hexF (l.drop k) a ∧ a < 16 ^ k ∧ fr 0 = .str s ∧ fr 1 = .int .i64 (i : Int) ∧ fr 5 = .int .i64 (a : Int) ∧ fr 6 = .int .i64 (k : Int) ∧ σ = σ') 4 ?_ ?_
  · exact ⟨0, 0, by omega, rfl, by rw [List.drop_zero], by simp, rfl, rfl, rfl, rfl, rfl⟩
  rintro n0 fr σ' ⟨k, a, hk, rfl, hst, ha, f0, f1, f5, f6, rfl⟩
  simp -implicitDefEqProofs only [f0, f1, f5, f6, wset, tailW, tailEnd, isLenV, isOneV, vop, vbin, vbinI, vun, ↓reduceIte, Nat.reduceEqDiff, Nat.reduceAdd, vcells, vcut, cutSK, cutVK, cutNK, fillV, spl, Nat.reduceLeDiff, V.isNil, bne_self_eq_false]
  refine chooseK_split (fun g1 => ?_) (fun g1 => ?_) <;> simp -implicitDefEqProofs only [g1, f0, f1, f5, f6, wset, tailW, tailEnd, isLenV, isOneV, vop, vbin, vbinI, vun, ↓reduceIte, Nat.reduceEqDiff, Nat.reduceAdd, vcells, vcut, cutSK, cutVK, cutNK, fillV, spl, Nat.reduceLeDiff, V.isNil, bne_self_eq_false]
  rotate_left
  · have : k = 4 := by simp at g1; omega
    rw [List.drop_of_length_le (by omega), hexF] at hst
    rw [hst] at h
    exact .inl h
  have hk4 : k < 4 := by simp at g1; omega
  have ha4 : a < 16 ^ 3 := Nat.lt_of_lt_of_le ha (Nat.pow_le_pow_right (by omega) (by omega))
  rw [show 16 ^ 3 = 4096 by decide] at ha4
  rw [wrap64 (by omega)]
  refine ⟨by omega, ?_⟩
  rw [show ((i : Int) + (k : Int)).toNat = i + k by omega]
  rw [hexF_step (by omega), hb k hk4] at hst
  generalize s.getD (i + k) 0 = c at *
  have hc := c.toNat_lt
  have w1 : 48 ≤ c.toNat → IntKind.wrap .i64 (IntKind.wrap .u8 ((c.toNat : Int) - 48)) = ((c.toNat - 48 : Nat) : Int) := fun h => wu8 (k := 48) h hc
  have w2 : 97 ≤ c.toNat → IntKind.wrap .i64 (IntKind.wrap .u8 ((c.toNat : Int) - 97)) = ((c.toNat - 97 : Nat) : Int) := fun h => wu8 (k := 97) h hc
  have w3 : 65 ≤ c.toNat → IntKind.wrap .i64 (IntKind.wrap .u8 ((c.toNat : Int) - 65)) = ((c.toNat - 65 : Nat) : Int) := fun h => wu8 (k := 65) h hc
  have wm : IntKind.wrap .i64 ((a : Int) * 16) = ((a * 16 : Nat) : Int) := by rw [wrap64 (by omega)]; omega
  refine chooseK_split (fun g2 => ?_) (fun g2 => ?_) <;> simp -implicitDefEqProofs only [g2, f0, f1, f5, f6, wset, tailW, tailEnd, isLenV, isOneV, vop, vbin, vbinI, vun, ↓reduceIte, Nat.reduceEqDiff, Nat.reduceAdd, vcells, vcut, cutSK, cutVK, cutNK, fillV, spl, Nat.reduceLeDiff, V.isNil, bne_self_eq_false]
  · have g2' : 48 ≤ c.toNat := by simp at g2; omega
    refine chooseK_split (fun g3 => ?_) (fun g3 => ?_) <;> simp -implicitDefEqProofs only [g3, f0, f1, f5, f6, wset, tailW, tailEnd, isLenV, isOneV, vop, vbin, vbinI, vun, ↓reduceIte, Nat.reduceEqDiff, Nat.reduceAdd, vcells, vcut, cutSK, cutVK, cutNK, fillV, spl, Nat.reduceLeDiff, V.isNil, bne_self_eq_false]
    · have g3' : c.toNat ≤ 57 := by simp at g3; omega
      have hd0 := (digv1 g2' g3')
      have hd16 := hexV_lt hd0
      rw [hd0] at hst
      refine ⟨4 - (k + 1), by omega, k + 1, a * 16 + _, by omega, rfl, hst, by rw [Nat.pow_succ]; omega, f0, f1, ?_, ?_, rfl⟩
      · show V.int .i64 _ = _
        congr 1
        rw [w1 (by omega), wm]
        rw [wrap64 (n := ((a * 16 : Nat) : Int) + ((c.toNat - 48 : Nat) : Int)) (by omega)]
        repeat rw [wrap64 (by omega)]
        omega
      · show V.int .i64 _ = _
        congr 1
        rw [wrap64 (by omega)]; omega
    · have g3' : ¬ c.toNat ≤ 57 := by simp at g3; omega
      refine chooseK_split (fun g6 => ?_) (fun g6 => ?_) <;> simp -implicitDefEqProofs only [g6, f0, f1, f5, f6, wset, tailW, tailEnd, isLenV, isOneV, vop, vbin, vbinI, vun, ↓reduceIte, Nat.reduceEqDiff, Nat.reduceAdd, vcells, vcut, cutSK, cutVK, cutNK, fillV, spl, Nat.reduceLeDiff, V.isNil, bne_self_eq_false]
      · have g6' : 97 ≤ c.toNat := by simp at g6; omega
        refine chooseK_split (fun g7 => ?_) (fun g7 => ?_) <;> simp -implicitDefEqProofs only [g7, f0, f1, f5, f6, wset, tailW, tailEnd, isLenV, isOneV, vop, vbin, vbinI, vun, ↓reduceIte, Nat.reduceEqDiff, Nat.reduceAdd, vcells, vcut, cutSK, cutVK, cutNK, fillV, spl, Nat.reduceLeDiff, V.isNil, bne_self_eq_false]
        · have g7' : c.toNat ≤ 102 := by simp at g7; omega
          have hd0 := (digv2 g6' g7')
          have hd16 := hexV_lt hd0
          rw [hd0] at hst
          refine ⟨4 - (k + 1), by omega, k + 1, a * 16 + _, by omega, rfl, hst, by rw [Nat.pow_succ]; omega, f0, f1, ?_, ?_, rfl⟩
          · show V.int .i64 _ = _
            congr 1
            rw [w2 (by omega), wm]
            rw [wrap64 (n := ((a * 16 : Nat) : Int) + ((c.toNat - 97 : Nat) : Int)) (by omega)]
            repeat rw [wrap64 (by omega)]
            omega
          · show V.int .i64 _ = _
            congr 1
            rw [wrap64 (by omega)]; omega
        · have g7' : ¬ c.toNat ≤ 102 := by simp at g7; omega
          refine chooseK_split (fun g4 => ?_) (fun g4 => ?_) <;> simp -implicitDefEqProofs only [g4, f0, f1, f5, f6, wset, tailW, tailEnd, isLenV, isOneV, vop, vbin, vbinI, vun, ↓reduceIte, Nat.reduceEqDiff, Nat.reduceAdd, vcells, vcut, cutSK, cutVK, cutNK, fillV, spl, Nat.reduceLeDiff, V.isNil, bne_self_eq_false]
          · have g4' : 65 ≤ c.toNat := by simp at g4; omega
            refine chooseK_split (fun g5 => ?_) (fun g5 => ?_) <;> simp -implicitDefEqProofs only [g5, f0, f1, f5, f6, wset, tailW, tailEnd, isLenV, isOneV, vop, vbin, vbinI, vun, ↓reduceIte, Nat.reduceEqDiff, Nat.reduceAdd, vcells, vcut, cutSK, cutVK, cutNK, fillV, spl, Nat.reduceLeDiff, V.isNil, bne_self_eq_false]
            · have g5' : c.toNat ≤ 70 := by simp at g5; omega
              have hd0 := (digv3 g4' g5')
              have hd16 := hexV_lt hd0
              rw [hd0] at hst
              refine ⟨4 - (k + 1), by omega, k + 1, a * 16 + _, by omega, rfl, hst, by rw [Nat.pow_succ]; omega, f0, f1, ?_, ?_, rfl⟩
              · show V.int .i64 _ = _
                congr 1
                rw [w3 (by omega), wm]
                rw [wrap64 (n := ((a * 16 : Nat) : Int) + ((c.toNat - 65 : Nat) : Int)) (by omega)]
                repeat rw [wrap64 (by omega)]
                omega
              · show V.int .i64 _ = _
                congr 1
                rw [wrap64 (by omega)]; omega
            · have g5' : ¬ c.toNat ≤ 70 := by simp at g5; omega
              have hd0 := digv0 (c := c) (by omega) (by omega) (by omega)
              rw [hd0] at hst
              rw [hst] at h
              exact .inl h
          · have g4' : ¬ 65 ≤ c.toNat := by simp at g4; omega
            have hd0 := digv0 (c := c) (by omega) (by omega) (by omega)
            rw [hd0] at hst
            rw [hst] at h
            exact .inl h
      · have g6' : ¬ 97 ≤ c.toNat := by simp at g6; omega
        refine chooseK_split (fun g4 => ?_) (fun g4 => ?_) <;> simp -implicitDefEqProofs only [g4, f0, f1, f5, f6, wset, tailW, tailEnd, isLenV, isOneV, vop, vbin, vbinI, vun, ↓reduceIte, Nat.reduceEqDiff, Nat.reduceAdd, vcells, vcut, cutSK, cutVK, cutNK, fillV, spl, Nat.reduceLeDiff, V.isNil, bne_self_eq_false]
        · have g4' : 65 ≤ c.toNat := by simp at g4; omega
          refine chooseK_split (fun g5 => ?_) (fun g5 => ?_) <;> simp -implicitDefEqProofs only [g5, f0, f1, f5, f6, wset, tailW, tailEnd, isLenV, isOneV, vop, vbin, vbinI, vun, ↓reduceIte, Nat.reduceEqDiff, Nat.reduceAdd, vcells, vcut, cutSK, cutVK, cutNK, fillV, spl, Nat.reduceLeDiff, V.isNil, bne_self_eq_false]
          · have g5' : c.toNat ≤ 70 := by simp at g5; omega
            have hd0 := (digv3 g4' g5')
            have hd16 := hexV_lt hd0
            rw [hd0] at hst
            refine ⟨4 - (k + 1), by omega, k + 1, a * 16 + _, by omega, rfl, hst, by rw [Nat.pow_succ]; omega, f0, f1, ?_, ?_, rfl⟩
            · show V.int .i64 _ = _
              congr 1
              rw [w3 (by omega), wm]
              rw [wrap64 (n := ((a * 16 : Nat) : Int) + ((c.toNat - 65 : Nat) : Int)) (by omega)]
              repeat rw [wrap64 (by omega)]
              omega
            · show V.int .i64 _ = _
              congr 1
              rw [wrap64 (by omega)]; omega
          · have g5' : ¬ c.toNat ≤ 70 := by simp at g5; omega
            have hd0 := digv0 (c := c) (by omega) (by omega) (by omega)
            rw [hd0] at hst
            rw [hst] at h
            exact .inl h
        · have g4' : ¬ 65 ≤ c.toNat := by simp at g4; omega
          have hd0 := digv0 (c := c) (by omega) (by omega) (by omega)
          rw [hd0] at hst
          rw [hst] at h
          exact .inl h
  · have g2' : ¬ 48 ≤ c.toNat := by simp at g2; omega
    refine chooseK_split (fun g6 => ?_) (fun g6 => ?_) <;> simp -implicitDefEqProofs only [g6, f0, f1, f5, f6, wset, tailW, tailEnd, isLenV, isOneV, vop, vbin, vbinI, vun, ↓reduceIte, Nat.reduceEqDiff, Nat.reduceAdd, vcells, vcut, cutSK, cutVK, cutNK, fillV, spl, Nat.reduceLeDiff, V.isNil, bne_self_eq_false]
    · have g6' : 97 ≤ c.toNat := by simp at g6; omega
      refine chooseK_split (fun g7 => ?_) (fun g7 => ?_) <;> simp -implicitDefEqProofs only [g7, f0, f1, f5, f6, wset, tailW, tailEnd, isLenV, isOneV, vop, vbin, vbinI, vun, ↓reduceIte, Nat.reduceEqDiff, Nat.reduceAdd, vcells, vcut, cutSK, cutVK, cutNK, fillV, spl, Nat.reduceLeDiff, V.isNil, bne_self_eq_false]
      · have g7' : c.toNat ≤ 102 := by simp at g7; omega
        have hd0 := (digv2 g6' g7')
        have hd16 := hexV_lt hd0
        rw [hd0] at hst
        refine ⟨4 - (k + 1), by omega, k + 1, a * 16 + _, by omega, rfl, hst, by rw [Nat.pow_succ]; omega, f0, f1, ?_, ?_, rfl⟩
        · show V.int .i64 _ = _
          congr 1
          rw [w2 (by omega), wm]
          rw [wrap64 (n := ((a * 16 : Nat) : Int) + ((c.toNat - 97 : Nat) : Int)) (by omega)]
          repeat rw [wrap64 (by omega)]
          omega
        · show V.int .i64 _ = _
          congr 1
          rw [wrap64 (by omega)]; omega
      · have g7' : ¬ c.toNat ≤ 102 := by simp at g7; omega
        refine chooseK_split (fun g4 => ?_) (fun g4 => ?_) <;> simp -implicitDefEqProofs only [g4, f0, f1, f5, f6, wset, tailW, tailEnd, isLenV, isOneV, vop, vbin, vbinI, vun, ↓reduceIte, Nat.reduceEqDiff, Nat.reduceAdd, vcells, vcut, cutSK, cutVK, cutNK, fillV, spl, Nat.reduceLeDiff, V.isNil, bne_self_eq_false]
        · have g4' : 65 ≤ c.toNat := by simp at g4; omega
          refine chooseK_split (fun g5 => ?_) (fun g5 => ?_) <;> simp -implicitDefEqProofs only [g5, f0, f1, f5, f6, wset, tailW, tailEnd, isLenV, isOneV, vop, vbin, vbinI, vun, ↓reduceIte, Nat.reduceEqDiff, Nat.reduceAdd, vcells, vcut, cutSK, cutVK, cutNK, fillV, spl, Nat.reduceLeDiff, V.isNil, bne_self_eq_false]
          · have g5' : c.toNat ≤ 70 := by simp at g5; omega
            have hd0 := (digv3 g4' g5')
            have hd16 := hexV_lt hd0
            rw [hd0] at hst
            refine ⟨4 - (k + 1), by omega, k + 1, a * 16 + _, by omega, rfl, hst, by rw [Nat.pow_succ]; omega, f0, f1, ?_, ?_, rfl⟩
            · show V.int .i64 _ = _
              congr 1
              rw [w3 (by omega), wm]
              rw [wrap64 (n := ((a * 16 : Nat) : Int) + ((c.toNat - 65 : Nat) : Int)) (by omega)]
              repeat rw [wrap64 (by omega)]
              omega
            · show V.int .i64 _ = _
              congr 1
              rw [wrap64 (by omega)]; omega
          · have g5' : ¬ c.toNat ≤ 70 := by simp at g5; omega
            have hd0 := digv0 (c := c) (by omega) (by omega) (by omega)
            rw [hd0] at hst
            rw [hst] at h
            exact .inl h
        · have g4' : ¬ 65 ≤ c.toNat := by simp at g4; omega
          have hd0 := digv0 (c := c) (by omega) (by omega) (by omega)
          rw [hd0] at hst
          rw [hst] at h
          exact .inl h
    · have g6' : ¬ 97 ≤ c.toNat := by simp at g6; omega
      refine chooseK_split (fun g4 => ?_) (fun g4 => ?_) <;> simp -implicitDefEqProofs only [g4, f0, f1, f5, f6, wset, tailW, tailEnd, isLenV, isOneV, vop, vbin, vbinI, vun, ↓reduceIte, Nat.reduceEqDiff, Nat.reduceAdd, vcells, vcut, cutSK, cutVK, cutNK, fillV, spl, Nat.reduceLeDiff, V.isNil, bne_self_eq_false]
      · have g4' : 65 ≤ c.toNat := by simp at g4; omega
        refine chooseK_split (fun g5 => ?_) (fun g5 => ?_) <;> simp -implicitDefEqProofs only [g5, f0, f1, f5, f6, wset, tailW, tailEnd, isLenV, isOneV, vop, vbin, vbinI, vun, ↓reduceIte, Nat.reduceEqDiff, Nat.reduceAdd, vcells, vcut, cutSK, cutVK, cutNK, fillV, spl, Nat.reduceLeDiff, V.isNil, bne_self_eq_false]
        · have g5' : c.toNat ≤ 70 := by simp at g5; omega
          have hd0 := (digv3 g4' g5')
          have hd16 := hexV_lt hd0
          rw [hd0] at hst
          refine ⟨4 - (k + 1), by omega, k + 1, a * 16 + _, by omega, rfl, hst, by rw [Nat.pow_succ]; omega, f0, f1, ?_, ?_, rfl⟩
          · show V.int .i64 _ = _
            congr 1
            rw [w3 (by omega), wm]
            rw [wrap64 (n := ((a * 16 : Nat) : Int) + ((c.toNat - 65 : Nat) : Int)) (by omega)]
            repeat rw [wrap64 (by omega)]
            omega
          · show V.int .i64 _ = _
            congr 1
            rw [wrap64 (by omega)]; omega
        · have g5' : ¬ c.toNat ≤ 70 := by simp at g5; omega
          have hd0 := digv0 (c := c) (by omega) (by omega) (by omega)
          rw [hd0] at hst
          rw [hst] at h
          exact .inl h
      · have g4' : ¬ 65 ≤ c.toNat := by simp at g4; omega
        have hd0 := digv0 (c := c) (by omega) (by omega) (by omega)
        rw [hd0] at hst
        rw [hst] at h
        exact .inl h

theorem unitS_at (s : List UInt8) (i : Nat) : unitS (s.drop i) = if i + 6 ≤ s.length ∧ bN s i = 92 ∧ bN s (i + 1) = 117 then hexF ((s.drop (i + 2)).take 4) 0 else none := by
  unfold unitS
  rw [List.length_drop, List.drop_drop]
  by_cases h : i + 6 ≤ s.length
  · have e : (s.drop i).take 2 = [s.getD i 0, s.getD (i + 1) 0] := by
      rw [drop_getD 0 (by omega), drop_getD 0 (show i + 1 < s.length by omega)]; rfl
    rw [e]
    have e2 : ([s.getD i 0, s.getD (i + 1) 0] = [92, 117]) ↔ (bN s i = 92 ∧ bN s (i + 1) = 117) := by
      simp only [List.cons.injEq, and_true, ← UInt8.toNat_inj]
      rfl
    by_cases h2 : bN s i = 92 ∧ bN s (i + 1) = 117
    · rw [if_pos ⟨by omega, e2.2 h2⟩, if_pos ⟨h, h2⟩]
    · rw [if_neg (fun x => h2 (e2.1 x.2)), if_neg (fun x => h2 x.2)]
  · rw [if_neg (by omega), if_neg (fun x => h x.1)]

theorem r10unit_C {s : List UInt8} {i : Nat} {σ : St} {Q : Out → St → Prop} (hs : s.length ≤ big) (hi : i ≤ 4294967310) (h : Q (.ret (.int .i64 (optI (unitS (s.drop i))))) σ) : C Xc 69 [.str s, .int .i64 (i : Int)] σ Q := by
  rw [unitS_at] at h
  have hs' := hs
  unfold big at hs'
  refine body cf_r10unit (Eq.refl true) ?_
  simp -implicitDefEqProofs only [vf_r10unit, wset, tailW, tailEnd, isLenV, isOneV, vop, vbin, vbinI, vun, ↓reduceIte, Nat.reduceEqDiff, Nat.reduceAdd, vcells, vcut, cutSK, cutVK, cutNK, fillV, spl, Nat.reduceLeDiff, V.isNil, bne_self_eq_false]
  rw [wrap64 (by omega)]
  refine chooseK_split (fun g1 => ?_) (fun g1 => ?_) <;> simp -implicitDefEqProofs only [g1, wset, tailW, tailEnd, isLenV, isOneV, vop, vbin, vbinI, vun, ↓reduceIte, Nat.reduceEqDiff, Nat.reduceAdd, vcells, vcut, cutSK, cutVK, cutNK, fillV, spl, Nat.reduceLeDiff, V.isNil, bne_self_eq_false]
  · rw [if_neg (by simp at g1; omega)] at h
    exact .inl h
  have hi6 : i + 6 ≤ s.length := by simp at g1; omega
  refine ⟨by omega, ?_⟩
  have b0 : ((s.getD i 0).toNat : Int) = (bN s i : Int) := rfl
  refine chooseK_split (fun g2 => ?_) (fun g2 => ?_) <;> simp -implicitDefEqProofs only [g2, wset, tailW, tailEnd, isLenV, isOneV, vop, vbin, vbinI, vun, ↓reduceIte, Nat.reduceEqDiff, Nat.reduceAdd, vcells, vcut, cutSK, cutVK, cutNK, fillV, spl, Nat.reduceLeDiff, V.isNil, bne_self_eq_false]
  · rw [b0] at g2
    rw [if_neg (fun x => by rw [x.2.1] at g2; cases g2)] at h
    exact .inl h
  rw [wrap64 (by omega)]
  refine ⟨by omega, ?_⟩
  have b1 : ((s.getD ((i : Int) + 1).toNat 0).toNat : Int) = (bN s (i + 1) : Int) := by rw [show ((i : Int) + 1).toNat = i + 1 by omega]; rfl
  rw [b1]
  refine chooseK_split (fun g3 => ?_) (fun g3 => ?_) <;> simp -implicitDefEqProofs only [g3, wset, tailW, tailEnd, isLenV, isOneV, vop, vbin, vbinI, vun, ↓reduceIte, Nat.reduceEqDiff, Nat.reduceAdd, vcells, vcut, cutSK, cutVK, cutNK, fillV, spl, Nat.reduceLeDiff, V.isNil, bne_self_eq_false]
  · rw [if_neg (fun x => by rw [x.2.2] at g3; cases g3)] at h
    exact .inl h
  rw [b0] at g2
  rw [if_pos ⟨hi6, by simp at g2; omega, by simp at g3; omega⟩] at h
  rw [wrap64 (by omega), show (i : Int) + 2 = ((i + 2 : Nat) : Int) by omega]
  refine r10hex_C hs (by omega) ?_
  simp -implicitDefEqProofs only [wset, tailW, tailEnd, isLenV, isOneV, vop, vbin, vbinI, vun, ↓reduceIte, Nat.reduceEqDiff, Nat.reduceAdd, vcells, vcut, cutSK, cutVK, cutNK, fillV, spl, Nat.reduceLeDiff, V.isNil, bne_self_eq_false]
  exact .inl h

theorem bN_take (s : List UInt8) (i : Nat) : bN (s.drop i) 1 = bN s (i + 1) := bN_drop s i 1

theorem r10sequence_C {s : List UInt8} {i : Nat} {σ : St} {Q : Out → St → Prop} (hs : s.length ≤ big) (hi : i + 2 ≤ s.length) (h : Q (.ret (.tup [.int .i64 ((seqS (s.drop i)).1 : Int), .int .i64 ((seqS (s.drop i)).2 : Int)])) σ) : C Xc 53 [.str s, .int .i64 (i : Int)] σ Q := by
  have hs' := hs
  unfold big at hs'
  unfold seqS at h
  rw [bN_take, List.drop_drop] at h
  refine body cf_r10sequence (Eq.refl true) ?_
  have wi : IntKind.wrap .i64 ((i : Int) + 1) = ((i + 1 : Nat) : Int) := by rw [wrap64 (by omega)]; omega
  have hc1 : ((s.getD (i + 1) 0).toNat : Int) = (bN s (i + 1) : Int) := rfl
  simp -implicitDefEqProofs only [vf_r10sequence, wi, hc1, wset, tailW, tailEnd, isLenV, isOneV, vop, vbin, vbinI, vun, ↓reduceIte, Nat.reduceEqDiff, Nat.reduceAdd, vcells, vcut, cutSK, cutVK, cutNK, fillV, spl, Nat.reduceLeDiff, V.isNil, bne_self_eq_false]
  refine ⟨by omega, ?_⟩
  have hb8 := bN_lt s (i + 1)
  refine chooseK_split (fun g1 => ?_) (fun g1 => ?_) <;> simp -implicitDefEqProofs only [g1, hc1, wi, wset, tailW, tailEnd, isLenV, isOneV, vop, vbin, vbinI, vun, ↓reduceIte, Nat.reduceEqDiff, Nat.reduceAdd, vcells, vcut, cutSK, cutVK, cutNK, fillV, spl, Nat.reduceLeDiff, V.isNil, bne_self_eq_false]
  · have e : bN s (i + 1) = 34 := by simp at g1; omega
    rw [e] at h
    refine ⟨by omega, ?_⟩
    rw [wrap64 (by omega), e]
    exact .inl h
  refine chooseK_split (fun g2 => ?_) (fun g2 => ?_) <;> simp -implicitDefEqProofs only [g2, hc1, wi, wset, tailW, tailEnd, isLenV, isOneV, vop, vbin, vbinI, vun, ↓reduceIte, Nat.reduceEqDiff, Nat.reduceAdd, vcells, vcut, cutSK, cutVK, cutNK, fillV, spl, Nat.reduceLeDiff, V.isNil, bne_self_eq_false]
  · have e : bN s (i + 1) = 92 := by simp at g2; omega
    rw [e] at h
    refine ⟨by omega, ?_⟩
    rw [wrap64 (by omega), e]
    exact .inl h
  refine chooseK_split (fun g3 => ?_) (fun g3 => ?_) <;> simp -implicitDefEqProofs only [g3, hc1, wi, wset, tailW, tailEnd, isLenV, isOneV, vop, vbin, vbinI, vun, ↓reduceIte, Nat.reduceEqDiff, Nat.reduceAdd, vcells, vcut, cutSK, cutVK, cutNK, fillV, spl, Nat.reduceLeDiff, V.isNil, bne_self_eq_false]
  · have e : bN s (i + 1) = 47 := by simp at g3; omega
    rw [e] at h
    refine ⟨by omega, ?_⟩
    rw [wrap64 (by omega), e]
    exact .inl h
  rw [if_neg (by simp at g1 g2 g3; omega)] at h
  refine chooseK_split (fun g4 => ?_) (fun g4 => ?_) <;> simp -implicitDefEqProofs only [g4, hc1, wset, tailW, tailEnd, isLenV, isOneV, vop, vbin, vbinI, vun, ↓reduceIte, Nat.reduceEqDiff, Nat.reduceAdd, vcells, vcut, cutSK, cutVK, cutNK, fillV, spl, Nat.reduceLeDiff, V.isNil, bne_self_eq_false]
  · have : bN s (i + 1) = 98 := by simp at g4; omega
    rw [this] at h
    exact .inl h
  refine chooseK_split (fun g5 => ?_) (fun g5 => ?_) <;> simp -implicitDefEqProofs only [g5, hc1, wset, tailW, tailEnd, isLenV, isOneV, vop, vbin, vbinI, vun, ↓reduceIte, Nat.reduceEqDiff, Nat.reduceAdd, vcells, vcut, cutSK, cutVK, cutNK, fillV, spl, Nat.reduceLeDiff, V.isNil, bne_self_eq_false]
  · have : bN s (i + 1) = 102 := by simp at g5; omega
    rw [this] at h
    exact .inl h
  refine chooseK_split (fun g6 => ?_) (fun g6 => ?_) <;> simp -implicitDefEqProofs only [g6, hc1, wset, tailW, tailEnd, isLenV, isOneV, vop, vbin, vbinI, vun, ↓reduceIte, Nat.reduceEqDiff, Nat.reduceAdd, vcells, vcut, cutSK, cutVK, cutNK, fillV, spl, Nat.reduceLeDiff, V.isNil, bne_self_eq_false]
  · have : bN s (i + 1) = 110 := by simp at g6; omega
    rw [this] at h
    exact .inl h
  refine chooseK_split (fun g7 => ?_) (fun g7 => ?_) <;> simp -implicitDefEqProofs only [g7, hc1, wset, tailW, tailEnd, isLenV, isOneV, vop, vbin, vbinI, vun, ↓reduceIte, Nat.reduceEqDiff, Nat.reduceAdd, vcells, vcut, cutSK, cutVK, cutNK, fillV, spl, Nat.reduceLeDiff, V.isNil, bne_self_eq_false]
  · have : bN s (i + 1) = 114 := by simp at g7; omega
    rw [this] at h
    exact .inl h
  refine chooseK_split (fun g8 => ?_) (fun g8 => ?_) <;> simp -implicitDefEqProofs only [g8, hc1, wset, tailW, tailEnd, isLenV, isOneV, vop, vbin, vbinI, vun, ↓reduceIte, Nat.reduceEqDiff, Nat.reduceAdd, vcells, vcut, cutSK, cutVK, cutNK, fillV, spl, Nat.reduceLeDiff, V.isNil, bne_self_eq_false]
  · have : bN s (i + 1) = 116 := by simp at g8; omega
    rw [this] at h
    exact .inl h
  have hlet : letV (bN s (i + 1)) = none := by
    unfold letV
    simp at g4 g5 g6 g7 g8
    repeat rw [if_neg (by omega)]
  rw [hlet] at h
  simp only at h
  refine r10unit_C hs (by omega) ?_
  cases hu : unitS (s.drop i) with
  | none =>
    rw [hu] at h
    have d1 : decide (optI none ≥ 55296) = false := rfl
    have d2 : decide (optI none < 0) = true := rfl
    simp -implicitDefEqProofs only [d1, d2, wset, tailW, tailEnd, isLenV, isOneV, vop, vbin, vbinI, vun, ↓reduceIte, Nat.reduceEqDiff, Nat.reduceAdd, vcells, vcut, cutSK, cutVK, cutNK, fillV, spl, Nat.reduceLeDiff, V.isNil, bne_self_eq_false]
    exact .inl h
  | some r =>
    rw [hu] at h
    have hr := unitS_lt hu
    have hoi : optI (some r) = (r : Int) := rfl
    rw [hoi]
    have n0 : decide ((r : Int) < 0) = false := decide_eq_false (by omega)
    simp only at h
    simp -implicitDefEqProofs only [n0, wset, tailW, tailEnd, isLenV, isOneV, vop, vbin, vbinI, vun, ↓reduceIte, Nat.reduceEqDiff, Nat.reduceAdd, vcells, vcut, cutSK, cutVK, cutNK, fillV, spl, Nat.reduceLeDiff, V.isNil, bne_self_eq_false]
    refine chooseK_split (fun k1 => ?_) (fun k1 => ?_) <;> simp -implicitDefEqProofs only [k1, n0, wset, tailW, tailEnd, isLenV, isOneV, vop, vbin, vbinI, vun, ↓reduceIte, Nat.reduceEqDiff, Nat.reduceAdd, vcells, vcut, cutSK, cutVK, cutNK, fillV, spl, Nat.reduceLeDiff, V.isNil, bne_self_eq_false]
    · refine chooseK_split (fun k2 => ?_) (fun k2 => ?_) <;> simp -implicitDefEqProofs only [k2, n0, wset, tailW, tailEnd, isLenV, isOneV, vop, vbin, vbinI, vun, ↓reduceIte, Nat.reduceEqDiff, Nat.reduceAdd, vcells, vcut, cutSK, cutVK, cutNK, fillV, spl, Nat.reduceLeDiff, V.isNil, bne_self_eq_false]
      · have hr1 : 55296 ≤ r ∧ r ≤ 56319 := by simp at k1 k2; omega
        rw [if_neg (by omega), if_neg (by omega)] at h
        rw [wrap64 (by omega), show (i : Int) + 6 = ((i + 6 : Nat) : Int) by omega]
        refine r10unit_C hs (by omega) ?_
        cases hq : unitS (s.drop (i + 6)) with
        | none =>
          rw [hq] at h
          have d1 : decide (optI none ≥ 56320) = false := rfl
          simp -implicitDefEqProofs only [d1, wset, tailW, tailEnd, isLenV, isOneV, vop, vbin, vbinI, vun, ↓reduceIte, Nat.reduceEqDiff, Nat.reduceAdd, vcells, vcut, cutSK, cutVK, cutNK, fillV, spl, Nat.reduceLeDiff, V.isNil, bne_self_eq_false]
          exact .inl h
        | some q =>
          rw [hq] at h
          have hq1 := unitS_lt hq
          have hoq : optI (some q) = (q : Int) := rfl
          rw [hoq]
          simp only at h
          simp -implicitDefEqProofs only [wset, tailW, tailEnd, isLenV, isOneV, vop, vbin, vbinI, vun, ↓reduceIte, Nat.reduceEqDiff, Nat.reduceAdd, vcells, vcut, cutSK, cutVK, cutNK, fillV, spl, Nat.reduceLeDiff, V.isNil, bne_self_eq_false]
          refine chooseK_split (fun k3 => ?_) (fun k3 => ?_) <;> simp -implicitDefEqProofs only [k3, wset, tailW, tailEnd, isLenV, isOneV, vop, vbin, vbinI, vun, ↓reduceIte, Nat.reduceEqDiff, Nat.reduceAdd, vcells, vcut, cutSK, cutVK, cutNK, fillV, spl, Nat.reduceLeDiff, V.isNil, bne_self_eq_false]
          · refine chooseK_split (fun k4 => ?_) (fun k4 => ?_) <;> simp -implicitDefEqProofs only [k4, wset, tailW, tailEnd, isLenV, isOneV, vop, vbin, vbinI, vun, ↓reduceIte, Nat.reduceEqDiff, Nat.reduceAdd, vcells, vcut, cutSK, cutVK, cutNK, fillV, spl, Nat.reduceLeDiff, V.isNil, bne_self_eq_false]
            · rw [if_neg (by simp at k3 k4; omega)] at h
              have e1 : IntKind.wrap .i64 ((r : Int) - 55296) = ((r - 55296 : Nat) : Int) := by rw [wrap64 (by omega)]; omega
              have e2 : IntKind.wrap .i64 (((r - 55296 : Nat) : Int) * 1024) = (((r - 55296) * 1024 : Nat) : Int) := by rw [wrap64 (by omega)]; omega
              have e3 : IntKind.wrap .i64 (65536 + (((r - 55296) * 1024 : Nat) : Int)) = ((65536 + (r - 55296) * 1024 : Nat) : Int) := by rw [wrap64 (by omega)]; omega
              have e4 : IntKind.wrap .i64 (((65536 + (r - 55296) * 1024 : Nat) : Int) + (q : Int)) = ((65536 + (r - 55296) * 1024 + q : Nat) : Int) := by rw [wrap64 (by omega)]; omega
              have e5 : IntKind.wrap .i64 (((65536 + (r - 55296) * 1024 + q : Nat) : Int) - 56320) = (((r - 55296) * 1024 + (q - 56320) + 65536 : Nat) : Int) := by rw [wrap64 (by simp at k3; omega)]; simp at k3; omega
              rw [e1, e2, e3, e4, e5]
              exact .inl h
            · rw [if_pos (by simp at k4; omega)] at h
              exact .inl h
          · rw [if_pos (by simp at k3; omega)] at h
            exact .inl h
      · have hr1 : 56320 ≤ r := by simp at k2; omega
        refine chooseK_split (fun k5 => ?_) (fun k5 => ?_) <;> simp -implicitDefEqProofs only [k5, n0, wset, tailW, tailEnd, isLenV, isOneV, vop, vbin, vbinI, vun, ↓reduceIte, Nat.reduceEqDiff, Nat.reduceAdd, vcells, vcut, cutSK, cutVK, cutNK, fillV, spl, Nat.reduceLeDiff, V.isNil, bne_self_eq_false]
        · refine chooseK_split (fun k6 => ?_) (fun k6 => ?_) <;> simp -implicitDefEqProofs only [k6, n0, wset, tailW, tailEnd, isLenV, isOneV, vop, vbin, vbinI, vun, ↓reduceIte, Nat.reduceEqDiff, Nat.reduceAdd, vcells, vcut, cutSK, cutVK, cutNK, fillV, spl, Nat.reduceLeDiff, V.isNil, bne_self_eq_false]
          · rw [if_pos (by simp at k6; omega)] at h
            exact .inl h
          · rw [if_neg (by simp at k6; omega), if_pos (by simp at k6; omega)] at h
            exact .inl h
        · exact absurd k5 (by simp; omega)
    · have hr1 : r < 55296 := by simp at k1; omega
      refine chooseK_split (fun k5 => ?_) (fun k5 => ?_) <;> simp -implicitDefEqProofs only [k5, n0, wset, tailW, tailEnd, isLenV, isOneV, vop, vbin, vbinI, vun, ↓reduceIte, Nat.reduceEqDiff, Nat.reduceAdd, vcells, vcut, cutSK, cutVK, cutNK, fillV, spl, Nat.reduceLeDiff, V.isNil, bne_self_eq_false]
      · exact absurd k5 (by simp; omega)
      · rw [if_neg (by omega), if_pos (by omega)] at h
        exact .inl h

end Go.Proofs.YtgdcdkgmeomhpaaGreatDoor

namespace Go.Proofs.YtgdcdkgmeomhpaaGreatDoor
open Go Go.Vs
set_option maxRecDepth 20000
attribute [local irreducible] chooseK

theorem enc01_eq {r : Nat} (h1 : r ≤ 1114111) (h2 : r < 55296 ∨ 57343 < r) : enc01 r = encR r := by rw [enc01, if_neg (by omega)]
theorem decT_valid (l : List UInt8) (h : (decT l).2 ≠ 0) : (decT l).1 ≤ 1114111 ∧ ((decT l).1 < 55296 ∨ 57343 < (decT l).1) := by
  rcases decT_cases l with e | ⟨_, _, e⟩
  · rw [e] at h; exact absurd rfl h
  · omega
theorem seqS_valid (l : List UInt8) (h : (seqS l).2 ≠ 0) : (seqS l).1 ≤ 1114111 ∧ ((seqS l).1 < 55296 ∨ 57343 < (seqS l).1) := by
  unfold seqS at h ⊢
  have hb := bN_lt l 1
  split
  · dsimp only; omega
  rename_i h0
  rw [if_neg h0] at h
  split
  · rename_i v hv
    unfold letV at hv
    repeat' split at hv
    all_goals first | (cases hv; done) | (cases hv; decide)
  rename_i hv
  rw [hv] at h
  simp only at h
  split
  · rename_i hu; rw [hu] at h; exact absurd rfl h
  rename_i r hu
  rw [hu] at h
  have hr := unitS_lt hu
  simp only at h
  split
  · rename_i h1; rw [if_pos h1] at h; exact absurd rfl h
  rename_i h1
  rw [if_neg h1] at h
  split
  · rename_i h2; dsimp only; omega
  rename_i h2
  rw [if_neg h2] at h
  split
  · rename_i hq; rw [hq] at h; exact absurd rfl h
  rename_i q hq
  have hq1 := unitS_lt hq
  rw [hq] at h
  simp only at h
  split
  · rename_i h3; rw [if_pos h3] at h; exact absurd rfl h
  · dsimp only; omega

theorem r10Parse_C {s : List UInt8} {i : Nat} {σ : St} {Q : Out → St → Prop} (hi : i ≤ s.length) (hs : s.length ≤ big) (h : Q (.ret (.tup [.str (strP s i).1, .int .i64 ((strP s i).2.1 : Int), .int .i64 ((strP s i).2.2 : Int)])) σ) : C Xc 39 [.str s, .int .i64 (i : Int)] σ Q := by
  have hs' := hs
  unfold big at hs'
  refine body cf_r10Parse (Eq.refl true) ?_
  have hn : decide ((i : Int) < 0) = false := decide_eq_false (by omega)
  simp -implicitDefEqProofs only [vf_r10Parse, hn, wset, tailW, tailEnd, isLenV, isOneV, vop, vbin, vbinI, vun, ↓reduceIte, Nat.reduceEqDiff, Nat.reduceAdd, vcells, vcut, cutSK, cutVK, cutNK, fillV, spl, Nat.reduceLeDiff, V.isNil, bne_self_eq_false]
  refine chooseK_split (fun h1 => ?_) (fun h1 => ?_) <;> simp -implicitDefEqProofs only [h1, wset, tailW, tailEnd, isLenV, isOneV, vop, vbin, vbinI, vun, ↓reduceIte, Nat.reduceEqDiff, Nat.reduceAdd, vcells, vcut, cutSK, cutVK, cutNK, fillV, spl, Nat.reduceLeDiff, V.isNil, bne_self_eq_false]
  · rw [strP, if_neg (by simp at h1; omega)] at h
    exact .inl h
  have hi' : i < s.length := by simp at h1; omega
  refine ⟨by omega, ?_⟩
  have hc0 : ((s.getD i 0).toNat : Int) = (bN s i : Int) := rfl
  refine chooseK_split (fun h2 => ?_) (fun h2 => ?_) <;> simp -implicitDefEqProofs only [h2, hc0, wset, tailW, tailEnd, isLenV, isOneV, vop, vbin, vbinI, vun, ↓reduceIte, Nat.reduceEqDiff, Nat.reduceAdd, vcells, vcut, cutSK, cutVK, cutNK, fillV, spl, Nat.reduceLeDiff, V.isNil, bne_self_eq_false]
  · rw [hc0] at h2
    rw [strP, if_neg (fun e => by rw [e.2] at h2; cases h2)] at h
    exact .inl h
  have h34 : bN s i = 34 := by rw [hc0] at h2; simp at h2; omega
  rw [strP, if_pos ⟨hi', h34⟩] at h
  rw [wrap64 (by omega)]
  refine LoopP.intro (fun n fr σ' => ∃ (j : Nat) (b : List UInt8), i < j ∧ j ≤ s.length ∧ s.length < j + n ∧ b.length ≤ j ∧ Q (.ret (.tup [.str (strS s i n j b).1, .int .i64 ((strS s i n j b).2.1 : Int), .int .i64 ((strS s i n j b).2.2 : Int)])) σ ∧ fr 0 = .str s ∧ fr 1 = .int .i64 (i : Int) ∧ fr 7 = .str b ∧ fr 8 = .int .i64 (j : Int) ∧ σ = σ') (s.length - i)
    ⟨i + 1, [], by omega, by omega, by omega, by simp, h, rfl, rfl, rfl, rfl, rfl⟩ ?_
  clear h
  rintro n fr σ' ⟨j, b, hj0, hj, hjn, hbj, h, f0, f1, f7, f8, rfl⟩
  simp -implicitDefEqProofs only [f0, f1, f7, f8, wset, tailW, tailEnd, isLenV, isOneV, vop, vbin, vbinI, vun, ↓reduceIte, Nat.reduceEqDiff, Nat.reduceAdd, vcells, vcut, cutSK, cutVK, cutNK, fillV, spl, Nat.reduceLeDiff, V.isNil, bne_self_eq_false]
  refine chooseK_split (fun g1 => ?_) (fun g1 => ?_) <;> simp -implicitDefEqProofs only [g1, f0, f1, f7, f8, wset, tailW, tailEnd, isLenV, isOneV, vop, vbin, vbinI, vun, ↓reduceIte, Nat.reduceEqDiff, Nat.reduceAdd, vcells, vcut, cutSK, cutVK, cutNK, fillV, spl, Nat.reduceLeDiff, V.isNil, bne_self_eq_false]
  · have hjl : j < s.length := by simp at g1; omega
    obtain ⟨n, rfl⟩ : ∃ m, n = m + 1 := ⟨n - 1, by omega⟩
    rw [strS, if_neg (by omega)] at h
    refine r01Decode_C hs (by omega) ?_
    have hd := decT_enc (s.drop j)
    have hv := decT_valid (s.drop j)
    generalize decT (s.drop j) = d at h hd hv ⊢
    obtain ⟨r, w⟩ := d
    dsimp only at h hd hv ⊢
    rw [List.length_drop] at hd
    simp -implicitDefEqProofs only [f0, f1, f7, f8, wset, tailW, tailEnd, isLenV, isOneV, vop, vbin, vbinI, vun, ↓reduceIte, Nat.reduceEqDiff, Nat.reduceAdd, vcells, vcut, cutSK, cutVK, cutNK, fillV, spl, Nat.reduceLeDiff, V.isNil, bne_self_eq_false]
    refine chooseK_split (fun g2 => ?_) (fun g2 => ?_) <;> simp -implicitDefEqProofs only [g2, f0, f1, f7, f8, wset, tailW, tailEnd, isLenV, isOneV, vop, vbin, vbinI, vun, ↓reduceIte, Nat.reduceEqDiff, Nat.reduceAdd, vcells, vcut, cutSK, cutVK, cutNK, fillV, spl, Nat.reduceLeDiff, V.isNil, bne_self_eq_false]
    · rw [if_pos (by simp at g2; omega)] at h
      exact .inl h
    have hw0 : w ≠ 0 := by simp at g2; omega
    have hd := hd hw0
    have hv := hv hw0
    rw [if_neg hw0] at h
    refine chooseK_split (fun g3 => ?_) (fun g3 => ?_) <;> simp -implicitDefEqProofs only [g3, f0, f1, f7, f8, wset, tailW, tailEnd, isLenV, isOneV, vop, vbin, vbinI, vun, ↓reduceIte, Nat.reduceEqDiff, Nat.reduceAdd, vcells, vcut, cutSK, cutVK, cutNK, fillV, spl, Nat.reduceLeDiff, V.isNil, bne_self_eq_false]
    · rw [if_pos (by simp at g3; omega)] at h
      exact .inl h
    rw [if_neg (by simp at g3; omega)] at h
    refine chooseK_split (fun g4 => ?_) (fun g4 => ?_) <;> simp -implicitDefEqProofs only [g4, f0, f1, f7, f8, wset, tailW, tailEnd, isLenV, isOneV, vop, vbin, vbinI, vun, ↓reduceIte, Nat.reduceEqDiff, Nat.reduceAdd, vcells, vcut, cutSK, cutVK, cutNK, fillV, spl, Nat.reduceLeDiff, V.isNil, bne_self_eq_false]
    · rw [if_pos (by simp at g4; omega)] at h
      rw [wrap64 (by omega)]
      exact .inl h
    rw [if_neg (by simp at g4; omega)] at h
    have hwr : IntKind.wrap .i64 ((j : Int) + 1) = (j : Int) + 1 := wrap64 (by omega)
    refine chooseK_split (fun g5 => ?_) (fun g5 => ?_) <;> simp -implicitDefEqProofs only [g5, f0, f1, f7, f8, hwr, wset, tailW, tailEnd, isLenV, isOneV, vop, vbin, vbinI, vun, ↓reduceIte, Nat.reduceEqDiff, Nat.reduceAdd, vcells, vcut, cutSK, cutVK, cutNK, fillV, spl, Nat.reduceLeDiff, V.isNil, bne_self_eq_false]
    · rw [if_pos (by simp at g5; omega)] at h
      refine chooseK_split (fun g6 => ?_) (fun g6 => ?_) <;> simp -implicitDefEqProofs only [g6, f0, f1, f7, f8, g5, wset, tailW, tailEnd, isLenV, isOneV, vop, vbin, vbinI, vun, ↓reduceIte, Nat.reduceEqDiff, Nat.reduceAdd, vcells, vcut, cutSK, cutVK, cutNK, fillV, spl, Nat.reduceLeDiff, V.isNil, bne_self_eq_false]
      · rw [if_pos (by simp at g6; omega)] at h
        exact .inl h
      · have hj1 : j + 1 ≠ s.length := by simp at g6; omega
        rw [if_neg hj1] at h
        refine r10sequence_C hs (by omega) ?_
        have hd := seqS_enc (s.drop j) (by rw [List.length_drop]; omega)
        have hv := seqS_valid (s.drop j)
        generalize seqS (s.drop j) = d at h hd hv ⊢
        obtain ⟨r', w'⟩ := d
        dsimp only at h hd hv ⊢
        rw [List.length_drop] at hd
        simp -implicitDefEqProofs only [f0, f1, f7, f8, wset, tailW, tailEnd, isLenV, isOneV, vop, vbin, vbinI, vun, ↓reduceIte, Nat.reduceEqDiff, Nat.reduceAdd, vcells, vcut, cutSK, cutVK, cutNK, fillV, spl, Nat.reduceLeDiff, V.isNil, bne_self_eq_false]
        refine chooseK_split (fun g7 => ?_) (fun g7 => ?_) <;> simp -implicitDefEqProofs only [g7, f0, f1, f7, f8, wset, tailW, tailEnd, isLenV, isOneV, vop, vbin, vbinI, vun, ↓reduceIte, Nat.reduceEqDiff, Nat.reduceAdd, vcells, vcut, cutSK, cutVK, cutNK, fillV, spl, Nat.reduceLeDiff, V.isNil, bne_self_eq_false]
        · rw [if_pos (by simp at g7; omega)] at h
          exact .inl h
        · have hw0' : w' ≠ 0 := by simp at g7; omega
          have hd := hd hw0'
          have hv := hv hw0'
          rw [if_neg hw0'] at h
          have hb2 : (b ++ encR r').length ≤ j + w' := by rw [List.length_append]; omega
          refine r01Encode_C (by omega) ?_
          rw [enc01_eq hv.1 hv.2]
          simp -implicitDefEqProofs only [f0, f1, f7, f8, wset, tailW, tailEnd, isLenV, isOneV, vop, vbin, vbinI, vun, ↓reduceIte, Nat.reduceEqDiff, Nat.reduceAdd, vcells, vcut, cutSK, cutVK, cutNK, fillV, spl, Nat.reduceLeDiff, V.isNil, bne_self_eq_false]
          rw [List.length_append] at hb2
          refine ⟨by unfold big; omega, ?_⟩
          exact ⟨n, by omega, j + w', b ++ encR r', by omega, by omega, by omega, by rw [List.length_append]; omega, h, f0, f1, rfl, by show V.int .i64 _ = _; rw [wrap64 (by omega)]; rfl, rfl⟩
    · rw [if_neg (by simp at g5; omega)] at h
      have hb2 : (b ++ encR r).length ≤ j + w := by rw [List.length_append]; omega
      refine r01Encode_C (by omega) ?_
      rw [enc01_eq hv.1 hv.2]
      simp -implicitDefEqProofs only [f0, f1, f7, f8, wset, tailW, tailEnd, isLenV, isOneV, vop, vbin, vbinI, vun, ↓reduceIte, Nat.reduceEqDiff, Nat.reduceAdd, vcells, vcut, cutSK, cutVK, cutNK, fillV, spl, Nat.reduceLeDiff, V.isNil, bne_self_eq_false]
      rw [List.length_append] at hb2
      refine ⟨by unfold big; omega, ?_⟩
      exact ⟨n, by omega, j + w, b ++ encR r, by omega, by omega, by omega, by rw [List.length_append]; omega, h, f0, f1, rfl, by show V.int .i64 _ = _; rw [wrap64 (by omega)]; rfl, rfl⟩
  · have hz : strS s i n j b = ([], i, 8) := by
      cases n with
      | zero => rfl
      | succ n => rw [strS, if_pos (by simp at g1; omega)]
    rw [hz] at h
    exact .inl h
end Go.Proofs.YtgdcdkgmeomhpaaGreatDoor

namespace Go.Proofs.YtgdcdkgmeomhpaaGreatDoor
open Go Go.Vs
set_option maxRecDepth 20000
attribute [local irreducible] chooseK

def alive1 : JV := jv 5 false 0 [] [] [.mk [97] (jv 4 false 0 [] [jv 2 false 1 [] [] [] 7, jv 2 false (-20) [] [] [] 10] [] 6) 1] 0
def alive2 : JV := jv 4 false 0 [] [jv 2 false 1 [] [] [] 7, jv 2 false (-20) [] [] [] 10] [] 6
theorem c1 : alive1.cells = [.int .i64 5, .bool false, .int .i64 0, .str [], .slc false [] .no, .slc true [.agg [.str [97], .int .i64 4, .bool false, .int .i64 0, .str [], .slc true [.agg [.int .i64 2, .bool false, .int .i64 1, .str [], .slc false [] .no, .slc false [] .no, .int .i64 7], .agg [.int .i64 2, .bool false, .int .i64 (-20), .str [], .slc false [] .no, .slc false [] .no, .int .i64 10]] .no, .slc false [] .no, .int .i64 6, .int .i64 1]] .no, .int .i64 0] := by kernel_rfl
theorem c2 : alive2.cells = [.int .i64 4, .bool false, .int .i64 0, .str [], .slc true [.agg [.int .i64 2, .bool false, .int .i64 1, .str [], .slc false [] .no, .slc false [] .no, .int .i64 7], .agg [.int .i64 2, .bool false, .int .i64 (-20), .str [], .slc false [] .no, .slc false [] .no, .int .i64 10]] .no, .slc false [] .no, .int .i64 6] := by kernel_rfl
theorem parse_a1 : parseS [123, 34, 97, 34, 58, 32, 91, 49, 44, 32, 45, 50, 48, 93, 125] = .ok alive1 := by kernel_rfl
theorem parse_a2 : parseS [91, 48, 49, 93] = .error (1, 15) := by kernel_rfl
theorem parse_a3 : parseS [123, 34, 97, 34, 58, 49, 44, 34, 97, 34, 58, 50, 125] = .error (7, 10) := by kernel_rfl
theorem parse_a4 : parseS [91, 49, 44, 93] = .error (3, 7) := by kernel_rfl
theorem parseV_ok {s : List UInt8} {v : JV} (h : parseS s = .ok v) : parseV s = .tup [v.enc, .int .i64 (s.length : Int), .int .i64 0] := by rw [parseV, h]
theorem parseV_error {s : List UInt8} {x : Nat × Nat} (h : parseS s = .error x) : parseV s = .tup [jnull.enc, .int .i64 (x.1 : Int), .int .i64 (x.2 : Int)] := by rw [parseV, h]; rfl

theorem alive_C {σ : St} {Q : Out → St → Prop} (h : Q (.ret (.bool true)) σ) : C Xc 5 [] σ Q := by
  refine bodyW cf_law11alive (Eq.refl true) fun hw => ?_
  simp -implicitDefEqProofs only [vf_law11alive, wset, tailW, tailEnd, isLenV, isOneV, vop, vbin, vbinI, vun, ↓reduceIte, Nat.reduceEqDiff, Nat.reduceAdd, vcells, vcut, cutSK, cutVK, cutNK, fillV, spl, Nat.reduceLeDiff, V.isNil, bne_self_eq_false]
  refine parse_C (by decide) ?_
  rw [parseV_ok parse_a1]
  simp -implicitDefEqProofs only [JV.enc, JV.len, List.append_assoc, getL, getL0, setL, setL0, List.set_cons_zero, List.set_cons_succ, wset, tailW, tailEnd, isLenV, isOneV, vop, vbin, vbinI, vun, ↓reduceIte, Nat.reduceEqDiff, Nat.reduceAdd, vcells, vcut, cutSK, cutVK, cutNK, fillV, spl, Nat.reduceLeDiff, V.isNil, bne_self_eq_false]
  refine parse_C (by decide) ?_
  rw [parseV_error parse_a2]
  simp -implicitDefEqProofs only [JV.enc, JV.len, List.append_assoc, getL, getL0, setL, setL0, List.set_cons_zero, List.set_cons_succ, wset, tailW, tailEnd, isLenV, isOneV, vop, vbin, vbinI, vun, ↓reduceIte, Nat.reduceEqDiff, Nat.reduceAdd, vcells, vcut, cutSK, cutVK, cutNK, fillV, spl, Nat.reduceLeDiff, V.isNil, bne_self_eq_false]
  refine parse_C (by decide) ?_
  rw [parseV_error parse_a3]
  simp -implicitDefEqProofs only [JV.enc, JV.len, List.append_assoc, getL, getL0, setL, setL0, List.set_cons_zero, List.set_cons_succ, wset, tailW, tailEnd, isLenV, isOneV, vop, vbin, vbinI, vun, ↓reduceIte, Nat.reduceEqDiff, Nat.reduceAdd, vcells, vcut, cutSK, cutVK, cutNK, fillV, spl, Nat.reduceLeDiff, V.isNil, bne_self_eq_false]
  refine parse_C (by decide) ?_
  rw [parseV_error parse_a4]
  simp -implicitDefEqProofs only [JV.enc, JV.len, List.append_assoc, getL, getL0, setL, setL0, List.set_cons_zero, List.set_cons_succ, take7, wset, tailW, tailEnd, isLenV, isOneV, vop, vbin, vbinI, vun, ↓reduceIte, Nat.reduceEqDiff, Nat.reduceAdd, vcells, vcut, cutSK, cutVK, cutNK, fillV, spl, Nat.reduceLeDiff, V.isNil, bne_self_eq_false]
  refine get_C (v := alive1) (by decide) ?_
  have hg : getS alive1 [97] = some alive2 := by kernel_rfl
  rw [getV_some hg]
  have n15 : (((15 : Nat) : Int)) = 15 := rfl
  have n1 : (((1 : Nat) : Int)) = 1 := rfl
  have n2 : (((0 + 1 + 1 : Nat) : Int)) = 2 := rfl
  have n01 : (((0 + 1 : Nat) : Int)) = 1 := rfl
  have n3 : (((3 : Nat) : Int)) = 3 := rfl
  have n7 : (((7 : Nat) : Int)) = 7 := rfl
  have n10 : (((10 : Nat) : Int)) = 10 := rfl
  have q1 : (Int.toNat 0) = 0 := rfl
  have q2 : (Int.toNat 1) = 1 := rfl
  have q3 : ((0 : Int) ≤ 0) = True := by simp
  have q4 : ((0 : Int) < 1) = True := by simp
  have q5 : ((0 : Int) ≤ 1) = True := by simp
  have q6 : ((1 : Int) < 2) = True := by simp
  have b1 : ((15 : Int) != 15) = false := rfl
  have b2 : ((0 : Int) != 0) = false := rfl
  have b3 : ((1 : Int) != 1) = false := rfl
  have b4 : ((2 : Int) != 2) = false := rfl
  simp -implicitDefEqProofs only [JV.enc, JV.len, List.append_assoc, getL, getL0, setL, setL0, List.set_cons_zero, List.set_cons_succ, take7, c1, c2, b1, b2, b3, b4, Int.natCast_zero, n15, n1, n2, n01, n3, n7, n10, q1, q2, q3, q4, q5, q6, List.mem_cons, List.not_mem_nil, or_false, forall_eq_or_imp, forall_eq, beq_self_eq_true, wset, tailW, tailEnd, isLenV, isOneV, vop, vbin, vbinI, vun, ↓reduceIte, Nat.reduceEqDiff, Nat.reduceAdd, vcells, vcut, cutSK, cutVK, cutNK, fillV, spl, Nat.reduceLeDiff, V.isNil, bne_self_eq_false]
  refine depth_C _ alive1 (Nat.le_refl _) (by decide) _ _ ?_
  rw [show (alive1.depth : Int) = 3 from by kernel_rfl]
  simp -implicitDefEqProofs only [JV.enc, JV.len, List.append_assoc, getL, getL0, setL, setL0, List.set_cons_zero, List.set_cons_succ, take7, c1, c2, b1, b2, b3, b4, n15, n1, n2, n01, n3, n7, n10, beq_self_eq_true, wset, tailW, tailEnd, isLenV, isOneV, vop, vbin, vbinI, vun, ↓reduceIte, Nat.reduceEqDiff, Nat.reduceAdd, vcells, vcut, cutSK, cutVK, cutNK, fillV, spl, Nat.reduceLeDiff, V.isNil, bne_self_eq_false]
  refine strip_C _ alive1 (Nat.le_refl _) (by decide) _ _ ?_
  simp -implicitDefEqProofs only [JV.enc, JV.len, List.append_assoc, getL, getL0, setL, setL0, List.set_cons_zero, List.set_cons_succ, take7, c1, c2, wset, tailW, tailEnd, isLenV, isOneV, vop, vbin, vbinI, vun, ↓reduceIte, Nat.reduceEqDiff, Nat.reduceAdd, vcells, vcut, cutSK, cutVK, cutNK, fillV, spl, Nat.reduceLeDiff, V.isNil, bne_self_eq_false]
  refine equal_C _ alive1 (stripJ alive1) (Nat.le_refl _) (by decide) _ _ ?_
  rw [show eqJ false alive1 (stripJ alive1) = true from by kernel_rfl]
  simp -implicitDefEqProofs only [wset, tailW, tailEnd, isLenV, isOneV, vop, vbin, vbinI, vun, ↓reduceIte, Nat.reduceEqDiff, Nat.reduceAdd, vcells, vcut, cutSK, cutVK, cutNK, fillV, spl, Nat.reduceLeDiff, V.isNil, bne_self_eq_false]
  exact exitNew hw (by rfl) (by rfl) h
end Go.Proofs.YtgdcdkgmeomhpaaGreatDoor

namespace Go.Proofs.YtgdcdkgmeomhpaaGreatDoor
open Go Go.Vs

/-- What digits spell, behind a number. -/
def digN : List UInt8 → Nat → Option Nat
  | [], u => some u
  | c :: r, u => if 48 ≤ c.toNat ∧ c.toNat ≤ 57 then digN r (u * 10 + (c.toNat - 48)) else none

theorem digN_ge : ∀ {l : List UInt8} {a u : Nat}, digN l a = some u → a * 10 ^ l.length ≤ u
  | [], a, u, h => by simp only [digN, Option.some.injEq] at h; simp; omega
  | c :: r, a, u, h => by
    rw [digN] at h
    split at h
    · have := digN_ge h
      simp only [List.length_cons, Nat.pow_succ]
      have e : a * (10 ^ r.length * 10) = a * 10 * 10 ^ r.length := by rw [Nat.mul_comm (10 ^ r.length) 10, Nat.mul_assoc]
      rw [e]
      refine Nat.le_trans (Nat.mul_le_mul_right _ (by omega)) this
    · cases h
theorem digN_lt : ∀ {l : List UInt8} {a u : Nat}, digN l a = some u → u < (a + 1) * 10 ^ l.length
  | [], a, u, h => by simp only [digN, Option.some.injEq] at h; simp; omega
  | c :: r, a, u, h => by
    rw [digN] at h
    split at h
    · have := digN_lt h
      simp only [List.length_cons, Nat.pow_succ]
      have e : (a + 1) * (10 ^ r.length * 10) = (a + 1) * 10 * 10 ^ r.length := by rw [Nat.mul_comm (10 ^ r.length) 10, Nat.mul_assoc]
      rw [e]
      exact Nat.lt_of_lt_of_le this (Nat.mul_le_mul_right _ (by omega))
    · cases h
theorem digN_le {l : List UInt8} {a u : Nat} (h : digN l a = some u) : a ≤ u := by
  have := digN_ge h
  have hp : 0 < 10 ^ l.length := Nat.pow_pos (by omega)
  exact Nat.le_trans (Nat.le_mul_of_pos_right _ hp) this

theorem uint_ok : ∀ (l : List UInt8) (a : Nat), a ≤ 18446744073709551615 → ∀ u, Lib.parseUintM 18446744073709551615 a l = .ok u ↔ (digN l a = some u ∧ u ≤ 18446744073709551615)
  | [], a, ha, u => by
    simp only [Lib.parseUintM, digN, Lib.NumEnd.ok.injEq, Option.some.injEq]
    constructor
    · rintro rfl; exact ⟨rfl, ha⟩
    · rintro ⟨rfl, _⟩; rfl
  | c :: r, a, ha, u => by
    rw [Lib.parseUintM, digN]
    split
    · split
      · simp only [reduceCtorEq, false_iff, not_and]
        intro h
        have := digN_le h
        omega
      · split
        · simp only [reduceCtorEq, false_iff, not_and]
          intro h
          have := digN_le h
          omega
        · exact uint_ok r _ (by omega) u
    · simp

/-- The digits of a number, behind its sign. -/
def numD (s : List UInt8) : List UInt8 := if s ≠ [] ∧ bN s 0 = 45 then s.drop 1 else s
/-- The number as the reference reads it. -/
def numR (s : List UInt8) : Option Int :=
  if numD s = [] ∨ 19 < (numD s).length ∨ (1 < (numD s).length ∧ bN (numD s) 0 = 48) then none
  else match digN (numD s) 0 with
    | none => none
    | some u => if (numD s).length < s.length then (if u ≤ 9223372036854775808 then some (-(u : Int)) else none) else if u < 9223372036854775808 then some (u : Int) else none

theorem pow19 : 10 ^ 19 = 10000000000000000000 := by decide
theorem digN_long {d : List UInt8} {u : Nat} (h : digN d 0 = some u) (hl : 19 < d.length) (h0 : bN d 0 ≠ 48) : 10 ^ 19 ≤ u := by
  cases d with
  | nil => simp at hl
  | cons c r =>
    rw [digN] at h
    split at h
    · have := digN_ge h
      have hc : 1 ≤ 0 * 10 + (c.toNat - 48) := by
        have : bN (c :: r) 0 = c.toNat := rfl
        omega
      have hp : 10 ^ 19 ≤ 10 ^ r.length := Nat.pow_le_pow_right (by omega) (by simp at hl; omega)
      exact Nat.le_trans hp (Nat.le_trans (Nat.le_mul_of_pos_left _ hc) this)
    · cases h
theorem digN_short {d : List UInt8} {u : Nat} (h : digN d 0 = some u) (hl : d.length ≤ 19) : u < 10 ^ 19 := by
  have := digN_lt h
  have hp : 10 ^ d.length ≤ 10 ^ 19 := Nat.pow_le_pow_right (by omega) hl
  omega

/-- Digits behind the sign: what ParseUint says of them, but for a leading zero. -/
theorem uintB_num {d : List UInt8} (h0 : ¬ (bN d 0 = 48 ∧ 1 < d.length)) (B : Nat) (hB : B ≤ 9223372036854775808) (f : Nat → Option Int) :
    (match Lib.parseUintB 64 d with | .ok u => if u ≤ B then f u else none | _ => none) =
      (if d = [] ∨ 19 < d.length ∨ (1 < d.length ∧ bN d 0 = 48) then none else match digN d 0 with | none => none | some u => if u ≤ B then f u else none) := by
  rw [Lib.parseUintB]
  by_cases hd : d = []
  · subst hd; simp
  rw [if_neg hd]
  have hk := uint_ok d 0 (by omega)
  have e64 : 2 ^ 64 - 1 = 18446744073709551615 := by decide
  rw [e64]
  by_cases hl : 19 < d.length
  · rw [if_pos (by simp [hl])]
    cases hu : Lib.parseUintM 18446744073709551615 0 d with
    | ok u =>
      have := ((hk u).1 hu).1
      have := digN_long this hl (fun e => h0 ⟨e, by omega⟩)
      rw [pow19] at this
      simp only
      rw [if_neg (by omega)]
    | _ => rfl
  · rw [if_neg (fun h => h.elim hd fun h => h.elim hl fun h => h0 ⟨h.2, h.1⟩)]
    cases hg : digN d 0 with
    | none =>
      cases hu : Lib.parseUintM 18446744073709551615 0 d with
      | ok u => rw [((hk u).1 hu).1] at hg; cases hg
      | _ => rfl
    | some u =>
      have := digN_short hg (by omega)
      rw [pow19] at this
      rw [(hk u).2 ⟨hg, by omega⟩]

theorem numS_numR (s : List UInt8) : numS s = numR s := by
  cases s with
  | nil => rfl
  | cons c r =>
    have hb : bN (c :: r) 0 = c.toNat := rfl
    have hpre : hasPre (c :: r) [45] = true ↔ c.toNat = 45 := by
      simp only [hasPre, List.length_cons, List.length_nil, Nat.zero_add, List.take_succ_cons, List.take_zero]
      constructor
      · intro h; have : c = 45 := by simpa using h
        rw [this]; rfl
      · intro h; have : c = 45 := UInt8.toNat_inj.1 h
        rw [this]; rfl
    unfold numS numR
    have e63 : 2 ^ (64 - 1) = 9223372036854775808 := by decide
    by_cases h45 : c.toNat = 45
    · have hc : c = 45 := UInt8.toNat_inj.1 h45
      subst hc
      rw [Lib.parseIntB_minus, e63]
      have hp : hasPre (45 :: r) [45] = true := hpre.2 rfl
      have hd : numD ((45 : UInt8) :: r) = r := by rw [numD, if_pos ⟨by simp, rfl⟩]; rfl
      have h43 : ¬ bN ((45 : UInt8) :: r) 0 = 43 := by rw [hb]; decide
      simp only [hp, if_true, hd, List.drop_succ_cons, List.drop_zero, h43, false_or]
      by_cases h0 : bN r 0 = 48 ∧ 1 < r.length
      · rw [if_pos (.inr (.inr ⟨h0.2, h0.1⟩))]
        cases Lib.signedC 9223372036854775808 (Lib.parseUintB 64 r) with
        | ok v => simp only [h0, and_self, if_true]
        | _ => rfl
      · have := uintB_num h0 9223372036854775808 (Nat.le_refl _) (fun u => some (-(u : Int)))
        simp only [List.length_cons, Nat.lt_succ_self, if_true]
        rw [← this]
        cases Lib.parseUintB 64 r with
        | ok u =>
          simp only [Lib.signedC]
          by_cases hu : 9223372036854775808 < u
          · rw [if_pos hu, if_neg (by omega)]
          · rw [if_neg hu, if_pos (by omega)]
            simp only [h0, if_false]
        | _ => rfl
    · have hp : hasPre (c :: r) [45] = false := by rw [← Bool.not_eq_true]; exact fun h => h45 (hpre.1 h)
      have hd : numD (c :: r) = c :: r := by rw [numD, if_neg (by rw [hb]; exact fun h => h45 h.2)]
      simp only [hp, Bool.false_eq_true, if_false, hd, Nat.lt_irrefl]
      by_cases h43 : c.toNat = 43
      · have hc : c = 43 := UInt8.toNat_inj.1 h43
        subst hc
        have h43 : bN ((43 : UInt8) :: r) 0 = 43 := rfl
        have hdg : digN ((43 : UInt8) :: r) 0 = none := by rw [digN, if_neg (by decide)]
        simp only [h43, true_or, if_true, hdg]
        cases Lib.parseIntB 64 (43 :: r) <;> simp
      · rw [Lib.parseIntB_plain 64 c r h43 h45, e63]
        simp only [hb, h43, false_or]
        by_cases h0 : c.toNat = 48 ∧ 1 < (c :: r).length
        · rw [if_pos (.inr (.inr ⟨h0.2, h0.1⟩))]
          cases Lib.signlessC 9223372036854775808 (Lib.parseUintB 64 (c :: r)) with
          | ok v => exact if_pos h0
          | _ => rfl
        · have := uintB_num (d := c :: r) h0 9223372036854775807 (by decide) (fun u => some (u : Int))
          have e : ∀ u : Nat, (u < 9223372036854775808) = (u ≤ 9223372036854775807) := fun u => propext (by omega)
          simp only [e]
          rw [hb] at this
          rw [← this]
          cases Lib.parseUintB 64 (c :: r) with
          | ok u =>
            simp only [Lib.signlessC]
            by_cases hu : 9223372036854775808 ≤ u
            · rw [if_pos hu, if_neg (by omega)]
            · rw [if_neg hu, if_pos (by omega)]
              simp only [h0, if_false]
          | _ => rfl
end Go.Proofs.YtgdcdkgmeomhpaaGreatDoor

namespace Go.Proofs.YtgdcdkgmeomhpaaGreatDoor
open Go Go.Vs
set_option maxRecDepth 20000
attribute [local irreducible] chooseK

theorem wrapu64 {n : Nat} (h : n < 18446744073709551616) : IntKind.wrap .u64 (n : Int) = (n : Int) := by
  simp only [IntKind.wrap, IntKind.signed, IntKind.bits]
  simp
  omega

theorem step64 {u c : Nat} (hu : u < 1000000000000000000) (h1 : 48 ≤ c) (h2 : c ≤ 57) : IntKind.wrap .u64 (IntKind.wrap .u64 ((u : Int) * 10) + IntKind.wrap .u64 (IntKind.wrap .u8 ((c : Int) - 48))) = ((u * 10 + (c - 48) : Nat) : Int) := by
  have e1 : ((c : Int) - 48) = ((c - 48 : Nat) : Int) := by omega
  have e2 : ((u : Int) * 10) = ((u * 10 : Nat) : Int) := by omega
  rw [e1, e2, wrapu8, Nat.mod_eq_of_lt (by omega), wrapu64 (by omega), wrapu64 (by omega), ← Int.natCast_add, wrapu64 (by omega)]
theorem neg64 {u : Nat} (hu : u ≤ 9223372036854775808) : IntKind.wrap .i64 (IntKind.wrap .u64 (0 - (u : Int))) = -(u : Int) := by
  simp only [IntKind.wrap, IntKind.signed, IntKind.bits]
  simp
  omega
theorem pos64 {u : Nat} (hu : u < 9223372036854775808) : IntKind.wrap .i64 (u : Int) = (u : Int) := wrap64 (by omega)

/-- The digits from place j on, behind what those before spell. -/
theorem digN_step {d : List UInt8} {j u : Nat} (h : j < d.length) : digN (d.drop j) u = if 48 ≤ bN d j ∧ bN d j ≤ 57 then digN (d.drop (j + 1)) (u * 10 + (bN d j - 48)) else none := by
  rw [drop_getD 0 h, digN]
  rfl



theorem refNumber_C {s : List UInt8} {σ : St} {Q : Out → St → Prop} (hs : s.length ≤ big)
    (h : match numR s with | some v => Q (.ret (.tup [.int .i64 v, .bool true])) σ | none => ∀ n, Q (.ret (.tup [.int .i64 n, .bool false])) σ) : C Xc 42 [.str s] σ Q := by
  have hs' := hs
  unfold big at hs'
  unfold numR at h
  refine body cf_refNumber (Eq.refl true) ?_
  have t0 : Int.toNat 0 = 0 := rfl
  have t1 : Int.toNat 1 = 1 := rfl
  simp -implicitDefEqProofs only [vf_refNumber, wset, tailW, tailEnd, isLenV, isOneV, vop, vbin, vbinI, vun, ↓reduceIte, Nat.reduceEqDiff, Nat.reduceAdd, vcells, vcut, cutSK, cutVK, cutNK, fillV, spl, Nat.reduceLeDiff, V.isNil, bne_self_eq_false]
  by_cases h0 : s = []
  · have hD : numD s = s := by rw [h0]; rfl
    have e : (s == []) = true := by simp [h0]
    simp -implicitDefEqProofs only [e, wset, tailW, tailEnd, isLenV, isOneV, vop, vbin, vbinI, vun, ↓reduceIte, Nat.reduceEqDiff, Nat.reduceAdd, vcells, vcut, cutSK, cutVK, cutNK, fillV, spl, Nat.reduceLeDiff, V.isNil, bne_self_eq_false]
    rw [if_pos (.inl (hD.trans h0))] at h
    exact .inl (h 0)
  have e : (s == []) = false := by simp [h0]
  have hpos : 0 < s.length := List.length_pos_iff.2 h0
  simp -implicitDefEqProofs only [e, t0, wset, tailW, tailEnd, isLenV, isOneV, vop, vbin, vbinI, vun, ↓reduceIte, Nat.reduceEqDiff, Nat.reduceAdd, vcells, vcut, cutSK, cutVK, cutNK, fillV, spl, Nat.reduceLeDiff, V.isNil, bne_self_eq_false]
  refine ⟨by omega, ?_⟩
  have hi0 : ((s.getD 0 0).toNat : Int) = (bN s 0 : Int) := rfl
  refine chooseK_split (fun h4 => ?_) (fun h4 => ?_) <;> simp -implicitDefEqProofs only [h4, cut_drop, t1, wset, tailW, tailEnd, isLenV, isOneV, vop, vbin, vbinI, vun, ↓reduceIte, Nat.reduceEqDiff, Nat.reduceAdd, vcells, vcut, cutSK, cutVK, cutNK, fillV, spl, Nat.reduceLeDiff, V.isNil, bne_self_eq_false]
  · refine ⟨by omega, ?_⟩
    have hD : numD s = s.drop 1 := by rw [numD, if_pos ⟨h0, by rw [hi0] at h4; simp at h4; omega⟩]
    have hDl : (s.drop 1).length ≤ s.length := by simp
    rw [hD] at h
    generalize s.drop 1 = d at *
    refine chooseK_split (fun h1 => ?_) (fun h1 => ?_) <;> simp -implicitDefEqProofs only [h1, wset, tailW, tailEnd, isLenV, isOneV, vop, vbin, vbinI, vun, ↓reduceIte, Nat.reduceEqDiff, Nat.reduceAdd, vcells, vcut, cutSK, cutVK, cutNK, fillV, spl, Nat.reduceLeDiff, V.isNil, bne_self_eq_false]
    · have : d = [] := by simpa using h1
      rw [if_pos (.inl (by exact this))] at h
      exact .inl (h 0)
    have hne : d ≠ [] := by simpa using h1
    refine chooseK_split (fun h2 => ?_) (fun h2 => ?_) <;> simp -implicitDefEqProofs only [h2, wset, tailW, tailEnd, isLenV, isOneV, vop, vbin, vbinI, vun, ↓reduceIte, Nat.reduceEqDiff, Nat.reduceAdd, vcells, vcut, cutSK, cutVK, cutNK, fillV, spl, Nat.reduceLeDiff, V.isNil, bne_self_eq_false]
    · rw [if_pos (.inr (.inl (by simp at h2; omega)))] at h
      exact .inl (h 0)
    refine chooseK_split (fun h3 => ?_) (fun h3 => ?_) <;> simp -implicitDefEqProofs only [h3, t0, wset, tailW, tailEnd, isLenV, isOneV, vop, vbin, vbinI, vun, ↓reduceIte, Nat.reduceEqDiff, Nat.reduceAdd, vcells, vcut, cutSK, cutVK, cutNK, fillV, spl, Nat.reduceLeDiff, V.isNil, bne_self_eq_false]
    · refine ⟨⟨by omega, by simp at h3; omega⟩, ?_⟩
      refine chooseK_split (fun h7 => ?_) (fun h7 => ?_) <;> simp -implicitDefEqProofs only [h7, wset, tailW, tailEnd, isLenV, isOneV, vop, vbin, vbinI, vun, ↓reduceIte, Nat.reduceEqDiff, Nat.reduceAdd, vcells, vcut, cutSK, cutVK, cutNK, fillV, spl, Nat.reduceLeDiff, V.isNil, bne_self_eq_false]
      · rw [if_pos (.inr (.inr ⟨by simp at h3; omega, by have e7 : ((d.getD 0 0).toNat : Int) = (bN d 0 : Int) := rfl; rw [e7] at h7; simp at h7; omega⟩))] at h
        exact .inl (h 0)
      have hnn : ¬ (d = [] ∨ 19 < d.length ∨ 1 < d.length ∧ bN d 0 = 48) := by
        have e7 : ((d.getD 0 0).toNat : Int) = (bN d 0 : Int) := rfl
        rw [e7] at h7
        simp at h7 h2
        rintro (h | h | h)
        · exact hne h
        · omega
        · omega
      rw [if_neg hnn] at h
      have hl19 : d.length ≤ 19 := by simp at h2; omega
      refine LoopP.intro (fun n fr σ' => ∃ (j u : Nat), j ≤ d.length ∧ n = d.length - j ∧ digN d 0 = digN (d.drop j) u ∧ u < 10 ^ j ∧ fr 0 = .str s ∧ fr 4 = .str d ∧ fr 5 = .int .u64 (u : Int) ∧ fr 6 = .int .i64 (j : Int) ∧ σ' = σ) d.length ?_ ?_
      · exact ⟨0, 0, by omega, by omega, by rw [List.drop_zero], by simp, by simp -implicitDefEqProofs only [wset, tailW, tailEnd, isLenV, isOneV, vop, vbin, vbinI, vun, ↓reduceIte, Nat.reduceEqDiff, Nat.reduceAdd, vcells, vcut, cutSK, cutVK, cutNK, fillV, spl, Nat.reduceLeDiff, V.isNil, bne_self_eq_false], by simp -implicitDefEqProofs only [wset, tailW, tailEnd, isLenV, isOneV, vop, vbin, vbinI, vun, ↓reduceIte, Nat.reduceEqDiff, Nat.reduceAdd, vcells, vcut, cutSK, cutVK, cutNK, fillV, spl, Nat.reduceLeDiff, V.isNil, bne_self_eq_false], by simp -implicitDefEqProofs only [Int.natCast_zero, wset, tailW, tailEnd, isLenV, isOneV, vop, vbin, vbinI, vun, ↓reduceIte, Nat.reduceEqDiff, Nat.reduceAdd, vcells, vcut, cutSK, cutVK, cutNK, fillV, spl, Nat.reduceLeDiff, V.isNil, bne_self_eq_false], by simp -implicitDefEqProofs only [Int.natCast_zero, wset, tailW, tailEnd, isLenV, isOneV, vop, vbin, vbinI, vun, ↓reduceIte, Nat.reduceEqDiff, Nat.reduceAdd, vcells, vcut, cutSK, cutVK, cutNK, fillV, spl, Nat.reduceLeDiff, V.isNil, bne_self_eq_false], rfl⟩
      rintro n fr σ' ⟨j, u, hj, rfl, hg, hu, f0, f4, f5, f6, rfl⟩
      simp -implicitDefEqProofs only [f0, f4, f5, f6, wset, tailW, tailEnd, isLenV, isOneV, vop, vbin, vbinI, vun, ↓reduceIte, Nat.reduceEqDiff, Nat.reduceAdd, vcells, vcut, cutSK, cutVK, cutNK, fillV, spl, Nat.reduceLeDiff, V.isNil, bne_self_eq_false]
      refine chooseK_split (fun h5 => ?_) (fun h5 => ?_) <;> simp -implicitDefEqProofs only [h5, f0, f4, f5, f6, wset, tailW, tailEnd, isLenV, isOneV, vop, vbin, vbinI, vun, ↓reduceIte, Nat.reduceEqDiff, Nat.reduceAdd, vcells, vcut, cutSK, cutVK, cutNK, fillV, spl, Nat.reduceLeDiff, V.isNil, bne_self_eq_false]
      · have hjl : j < d.length := by simp at h5; omega
        rw [digN_step hjl] at hg
        have hb : ((d.getD j 0).toNat : Int) = (bN d j : Int) := rfl
        rw [hb]
        have hb8 := bN_lt d j
        refine ⟨by omega, ?_⟩
        refine chooseK_split (fun h6 => ?_) (fun h6 => ?_) <;> simp -implicitDefEqProofs only [h6, f0, f4, f5, f6, wset, tailW, tailEnd, isLenV, isOneV, vop, vbin, vbinI, vun, ↓reduceIte, Nat.reduceEqDiff, Nat.reduceAdd, vcells, vcut, cutSK, cutVK, cutNK, fillV, spl, Nat.reduceLeDiff, V.isNil, bne_self_eq_false]
        · rw [if_neg (by simp at h6; omega)] at hg
          rw [hg] at h
          exact .inl (h 0)
        rw [hb]
        refine ⟨by omega, ?_⟩
        refine chooseK_split (fun h8 => ?_) (fun h8 => ?_) <;> simp -implicitDefEqProofs only [h8, f0, f4, f5, f6, wset, tailW, tailEnd, isLenV, isOneV, vop, vbin, vbinI, vun, ↓reduceIte, Nat.reduceEqDiff, Nat.reduceAdd, vcells, vcut, cutSK, cutVK, cutNK, fillV, spl, Nat.reduceLeDiff, V.isNil, bne_self_eq_false]
        · rw [if_neg (by simp at h8; omega)] at hg
          rw [hg] at h
          exact .inl (h 0)
        rw [if_pos (by simp at h6 h8; omega)] at hg
        have hp18 : 10 ^ j ≤ 10 ^ 18 := Nat.pow_le_pow_right (by omega) (by omega)
        have h18 : 10 ^ 18 = 1000000000000000000 := by decide
        refine ⟨by omega, ?_⟩
        rw [hb, step64 (by omega) (by simp at h6; omega) (by simp at h8; omega), wrap64 (by omega)]
        exact ⟨d.length - (j + 1), by omega, j + 1, u * 10 + (bN d j - 48), by omega, rfl, hg, by rw [Nat.pow_succ]; simp at h8; omega, by simp -implicitDefEqProofs only [f0, wset, tailW, tailEnd, isLenV, isOneV, vop, vbin, vbinI, vun, ↓reduceIte, Nat.reduceEqDiff, Nat.reduceAdd, vcells, vcut, cutSK, cutVK, cutNK, fillV, spl, Nat.reduceLeDiff, V.isNil, bne_self_eq_false], by simp -implicitDefEqProofs only [f4, wset, tailW, tailEnd, isLenV, isOneV, vop, vbin, vbinI, vun, ↓reduceIte, Nat.reduceEqDiff, Nat.reduceAdd, vcells, vcut, cutSK, cutVK, cutNK, fillV, spl, Nat.reduceLeDiff, V.isNil, bne_self_eq_false], by simp -implicitDefEqProofs only [wset, tailW, tailEnd, isLenV, isOneV, vop, vbin, vbinI, vun, ↓reduceIte, Nat.reduceEqDiff, Nat.reduceAdd, vcells, vcut, cutSK, cutVK, cutNK, fillV, spl, Nat.reduceLeDiff, V.isNil, bne_self_eq_false], by simp -implicitDefEqProofs only [wset, tailW, tailEnd, isLenV, isOneV, vop, vbin, vbinI, vun, ↓reduceIte, Nat.reduceEqDiff, Nat.reduceAdd, vcells, vcut, cutSK, cutVK, cutNK, fillV, spl, Nat.reduceLeDiff, V.isNil, bne_self_eq_false]; rfl, rfl⟩
      · have hj2 : j = d.length := by simp at h5; omega
        rw [List.drop_of_length_le (by omega), digN] at hg
        rw [hg] at h
        have hp19 : 10 ^ j ≤ 10 ^ 19 := Nat.pow_le_pow_right (by omega) (by omega)
        rw [pow19] at hp19
        simp only at h
        refine chooseK_split (fun h9 => ?_) (fun h9 => ?_) <;> simp -implicitDefEqProofs only [h9, f0, f4, f5, f6, wset, tailW, tailEnd, isLenV, isOneV, vop, vbin, vbinI, vun, ↓reduceIte, Nat.reduceEqDiff, Nat.reduceAdd, vcells, vcut, cutSK, cutVK, cutNK, fillV, spl, Nat.reduceLeDiff, V.isNil, bne_self_eq_false]
        · rw [if_pos (by have := of_decide_eq_true h9; omega)] at h
          by_cases hu9 : u ≤ 9223372036854775808
          · rw [if_pos hu9] at h
            rw [neg64 hu9, decide_eq_true (by omega)]
            exact .inl h
          · rw [if_neg hu9] at h
            rw [decide_eq_false (by omega)]
            exact .inl (h _)
        · rw [if_neg (by have := of_decide_eq_false h9; omega)] at h
          by_cases hu9 : u < 9223372036854775808
          · rw [if_pos hu9] at h
            rw [pos64 hu9, decide_eq_true (by omega)]
            exact .inl h
          · rw [if_neg hu9] at h
            rw [decide_eq_false (by omega)]
            exact .inl (h _)
    · have hnn : ¬ (d = [] ∨ 19 < d.length ∨ 1 < d.length ∧ bN d 0 = 48) := by
        simp at h2 h3
        rintro (h | h | h)
        · exact hne h
        · omega
        · omega
      rw [if_neg hnn] at h
      have hl19 : d.length ≤ 19 := by simp at h2; omega
      refine LoopP.intro (fun n fr σ' => ∃ (j u : Nat), j ≤ d.length ∧ n = d.length - j ∧ digN d 0 = digN (d.drop j) u ∧ u < 10 ^ j ∧ fr 0 = .str s ∧ fr 4 = .str d ∧ fr 5 = .int .u64 (u : Int) ∧ fr 6 = .int .i64 (j : Int) ∧ σ' = σ) d.length ?_ ?_
      · exact ⟨0, 0, by omega, by omega, by rw [List.drop_zero], by simp, by simp -implicitDefEqProofs only [wset, tailW, tailEnd, isLenV, isOneV, vop, vbin, vbinI, vun, ↓reduceIte, Nat.reduceEqDiff, Nat.reduceAdd, vcells, vcut, cutSK, cutVK, cutNK, fillV, spl, Nat.reduceLeDiff, V.isNil, bne_self_eq_false], by simp -implicitDefEqProofs only [wset, tailW, tailEnd, isLenV, isOneV, vop, vbin, vbinI, vun, ↓reduceIte, Nat.reduceEqDiff, Nat.reduceAdd, vcells, vcut, cutSK, cutVK, cutNK, fillV, spl, Nat.reduceLeDiff, V.isNil, bne_self_eq_false], by simp -implicitDefEqProofs only [Int.natCast_zero, wset, tailW, tailEnd, isLenV, isOneV, vop, vbin, vbinI, vun, ↓reduceIte, Nat.reduceEqDiff, Nat.reduceAdd, vcells, vcut, cutSK, cutVK, cutNK, fillV, spl, Nat.reduceLeDiff, V.isNil, bne_self_eq_false], by simp -implicitDefEqProofs only [Int.natCast_zero, wset, tailW, tailEnd, isLenV, isOneV, vop, vbin, vbinI, vun, ↓reduceIte, Nat.reduceEqDiff, Nat.reduceAdd, vcells, vcut, cutSK, cutVK, cutNK, fillV, spl, Nat.reduceLeDiff, V.isNil, bne_self_eq_false], rfl⟩
      rintro n fr σ' ⟨j, u, hj, rfl, hg, hu, f0, f4, f5, f6, rfl⟩
      simp -implicitDefEqProofs only [f0, f4, f5, f6, wset, tailW, tailEnd, isLenV, isOneV, vop, vbin, vbinI, vun, ↓reduceIte, Nat.reduceEqDiff, Nat.reduceAdd, vcells, vcut, cutSK, cutVK, cutNK, fillV, spl, Nat.reduceLeDiff, V.isNil, bne_self_eq_false]
      refine chooseK_split (fun h5 => ?_) (fun h5 => ?_) <;> simp -implicitDefEqProofs only [h5, f0, f4, f5, f6, wset, tailW, tailEnd, isLenV, isOneV, vop, vbin, vbinI, vun, ↓reduceIte, Nat.reduceEqDiff, Nat.reduceAdd, vcells, vcut, cutSK, cutVK, cutNK, fillV, spl, Nat.reduceLeDiff, V.isNil, bne_self_eq_false]
      · have hjl : j < d.length := by simp at h5; omega
        rw [digN_step hjl] at hg
        have hb : ((d.getD j 0).toNat : Int) = (bN d j : Int) := rfl
        rw [hb]
        have hb8 := bN_lt d j
        refine ⟨by omega, ?_⟩
        refine chooseK_split (fun h6 => ?_) (fun h6 => ?_) <;> simp -implicitDefEqProofs only [h6, f0, f4, f5, f6, wset, tailW, tailEnd, isLenV, isOneV, vop, vbin, vbinI, vun, ↓reduceIte, Nat.reduceEqDiff, Nat.reduceAdd, vcells, vcut, cutSK, cutVK, cutNK, fillV, spl, Nat.reduceLeDiff, V.isNil, bne_self_eq_false]
        · rw [if_neg (by simp at h6; omega)] at hg
          rw [hg] at h
          exact .inl (h 0)
        rw [hb]
        refine ⟨by omega, ?_⟩
        refine chooseK_split (fun h8 => ?_) (fun h8 => ?_) <;> simp -implicitDefEqProofs only [h8, f0, f4, f5, f6, wset, tailW, tailEnd, isLenV, isOneV, vop, vbin, vbinI, vun, ↓reduceIte, Nat.reduceEqDiff, Nat.reduceAdd, vcells, vcut, cutSK, cutVK, cutNK, fillV, spl, Nat.reduceLeDiff, V.isNil, bne_self_eq_false]
        · rw [if_neg (by simp at h8; omega)] at hg
          rw [hg] at h
          exact .inl (h 0)
        rw [if_pos (by simp at h6 h8; omega)] at hg
        have hp18 : 10 ^ j ≤ 10 ^ 18 := Nat.pow_le_pow_right (by omega) (by omega)
        have h18 : 10 ^ 18 = 1000000000000000000 := by decide
        refine ⟨by omega, ?_⟩
        rw [hb, step64 (by omega) (by simp at h6; omega) (by simp at h8; omega), wrap64 (by omega)]
        exact ⟨d.length - (j + 1), by omega, j + 1, u * 10 + (bN d j - 48), by omega, rfl, hg, by rw [Nat.pow_succ]; simp at h8; omega, by simp -implicitDefEqProofs only [f0, wset, tailW, tailEnd, isLenV, isOneV, vop, vbin, vbinI, vun, ↓reduceIte, Nat.reduceEqDiff, Nat.reduceAdd, vcells, vcut, cutSK, cutVK, cutNK, fillV, spl, Nat.reduceLeDiff, V.isNil, bne_self_eq_false], by simp -implicitDefEqProofs only [f4, wset, tailW, tailEnd, isLenV, isOneV, vop, vbin, vbinI, vun, ↓reduceIte, Nat.reduceEqDiff, Nat.reduceAdd, vcells, vcut, cutSK, cutVK, cutNK, fillV, spl, Nat.reduceLeDiff, V.isNil, bne_self_eq_false], by simp -implicitDefEqProofs only [wset, tailW, tailEnd, isLenV, isOneV, vop, vbin, vbinI, vun, ↓reduceIte, Nat.reduceEqDiff, Nat.reduceAdd, vcells, vcut, cutSK, cutVK, cutNK, fillV, spl, Nat.reduceLeDiff, V.isNil, bne_self_eq_false], by simp -implicitDefEqProofs only [wset, tailW, tailEnd, isLenV, isOneV, vop, vbin, vbinI, vun, ↓reduceIte, Nat.reduceEqDiff, Nat.reduceAdd, vcells, vcut, cutSK, cutVK, cutNK, fillV, spl, Nat.reduceLeDiff, V.isNil, bne_self_eq_false]; rfl, rfl⟩
      · have hj2 : j = d.length := by simp at h5; omega
        rw [List.drop_of_length_le (by omega), digN] at hg
        rw [hg] at h
        have hp19 : 10 ^ j ≤ 10 ^ 19 := Nat.pow_le_pow_right (by omega) (by omega)
        rw [pow19] at hp19
        simp only at h
        refine chooseK_split (fun h9 => ?_) (fun h9 => ?_) <;> simp -implicitDefEqProofs only [h9, f0, f4, f5, f6, wset, tailW, tailEnd, isLenV, isOneV, vop, vbin, vbinI, vun, ↓reduceIte, Nat.reduceEqDiff, Nat.reduceAdd, vcells, vcut, cutSK, cutVK, cutNK, fillV, spl, Nat.reduceLeDiff, V.isNil, bne_self_eq_false]
        · rw [if_pos (by have := of_decide_eq_true h9; omega)] at h
          by_cases hu9 : u ≤ 9223372036854775808
          · rw [if_pos hu9] at h
            rw [neg64 hu9, decide_eq_true (by omega)]
            exact .inl h
          · rw [if_neg hu9] at h
            rw [decide_eq_false (by omega)]
            exact .inl (h _)
        · rw [if_neg (by have := of_decide_eq_false h9; omega)] at h
          by_cases hu9 : u < 9223372036854775808
          · rw [if_pos hu9] at h
            rw [pos64 hu9, decide_eq_true (by omega)]
            exact .inl h
          · rw [if_neg hu9] at h
            rw [decide_eq_false (by omega)]
            exact .inl (h _)
  · have hD : numD s = s := by rw [numD, if_neg (fun e => by rw [hi0] at h4; simp at h4; omega)]
    rw [hD] at h
    have hDl : s.length ≤ s.length := Nat.le_refl _
    refine chooseK_split (fun h1 => ?_) (fun h1 => ?_) <;> simp -implicitDefEqProofs only [h1, wset, tailW, tailEnd, isLenV, isOneV, vop, vbin, vbinI, vun, ↓reduceIte, Nat.reduceEqDiff, Nat.reduceAdd, vcells, vcut, cutSK, cutVK, cutNK, fillV, spl, Nat.reduceLeDiff, V.isNil, bne_self_eq_false]
    · have : s = [] := by simpa using h1
      rw [if_pos (.inl (by exact this))] at h
      exact .inl (h 0)
    have hne : s ≠ [] := by simpa using h1
    refine chooseK_split (fun h2 => ?_) (fun h2 => ?_) <;> simp -implicitDefEqProofs only [h2, wset, tailW, tailEnd, isLenV, isOneV, vop, vbin, vbinI, vun, ↓reduceIte, Nat.reduceEqDiff, Nat.reduceAdd, vcells, vcut, cutSK, cutVK, cutNK, fillV, spl, Nat.reduceLeDiff, V.isNil, bne_self_eq_false]
    · rw [if_pos (.inr (.inl (by simp at h2; omega)))] at h
      exact .inl (h 0)
    refine chooseK_split (fun h3 => ?_) (fun h3 => ?_) <;> simp -implicitDefEqProofs only [h3, t0, wset, tailW, tailEnd, isLenV, isOneV, vop, vbin, vbinI, vun, ↓reduceIte, Nat.reduceEqDiff, Nat.reduceAdd, vcells, vcut, cutSK, cutVK, cutNK, fillV, spl, Nat.reduceLeDiff, V.isNil, bne_self_eq_false]
    · refine ⟨⟨by omega, by simp at h3; omega⟩, ?_⟩
      refine chooseK_split (fun h7 => ?_) (fun h7 => ?_) <;> simp -implicitDefEqProofs only [h7, wset, tailW, tailEnd, isLenV, isOneV, vop, vbin, vbinI, vun, ↓reduceIte, Nat.reduceEqDiff, Nat.reduceAdd, vcells, vcut, cutSK, cutVK, cutNK, fillV, spl, Nat.reduceLeDiff, V.isNil, bne_self_eq_false]
      · rw [if_pos (.inr (.inr ⟨by simp at h3; omega, by have e7 : ((s.getD 0 0).toNat : Int) = (bN s 0 : Int) := rfl; rw [e7] at h7; simp at h7; omega⟩))] at h
        exact .inl (h 0)
      have hnn : ¬ (s = [] ∨ 19 < s.length ∨ 1 < s.length ∧ bN s 0 = 48) := by
        have e7 : ((s.getD 0 0).toNat : Int) = (bN s 0 : Int) := rfl
        rw [e7] at h7
        simp at h7 h2
        rintro (h | h | h)
        · exact hne h
        · omega
        · omega
      rw [if_neg hnn] at h
      have hl19 : s.length ≤ 19 := by simp at h2; omega
      refine LoopP.intro (fun n fr σ' => ∃ (j u : Nat), j ≤ s.length ∧ n = s.length - j ∧ digN s 0 = digN (s.drop j) u ∧ u < 10 ^ j ∧ fr 0 = .str s ∧ fr 4 = .str s ∧ fr 5 = .int .u64 (u : Int) ∧ fr 6 = .int .i64 (j : Int) ∧ σ' = σ) s.length ?_ ?_
      · exact ⟨0, 0, by omega, by omega, by rw [List.drop_zero], by simp, by simp -implicitDefEqProofs only [wset, tailW, tailEnd, isLenV, isOneV, vop, vbin, vbinI, vun, ↓reduceIte, Nat.reduceEqDiff, Nat.reduceAdd, vcells, vcut, cutSK, cutVK, cutNK, fillV, spl, Nat.reduceLeDiff, V.isNil, bne_self_eq_false], by simp -implicitDefEqProofs only [wset, tailW, tailEnd, isLenV, isOneV, vop, vbin, vbinI, vun, ↓reduceIte, Nat.reduceEqDiff, Nat.reduceAdd, vcells, vcut, cutSK, cutVK, cutNK, fillV, spl, Nat.reduceLeDiff, V.isNil, bne_self_eq_false], by simp -implicitDefEqProofs only [Int.natCast_zero, wset, tailW, tailEnd, isLenV, isOneV, vop, vbin, vbinI, vun, ↓reduceIte, Nat.reduceEqDiff, Nat.reduceAdd, vcells, vcut, cutSK, cutVK, cutNK, fillV, spl, Nat.reduceLeDiff, V.isNil, bne_self_eq_false], by simp -implicitDefEqProofs only [Int.natCast_zero, wset, tailW, tailEnd, isLenV, isOneV, vop, vbin, vbinI, vun, ↓reduceIte, Nat.reduceEqDiff, Nat.reduceAdd, vcells, vcut, cutSK, cutVK, cutNK, fillV, spl, Nat.reduceLeDiff, V.isNil, bne_self_eq_false], rfl⟩
      rintro n fr σ' ⟨j, u, hj, rfl, hg, hu, f0, f4, f5, f6, rfl⟩
      simp -implicitDefEqProofs only [f0, f4, f5, f6, wset, tailW, tailEnd, isLenV, isOneV, vop, vbin, vbinI, vun, ↓reduceIte, Nat.reduceEqDiff, Nat.reduceAdd, vcells, vcut, cutSK, cutVK, cutNK, fillV, spl, Nat.reduceLeDiff, V.isNil, bne_self_eq_false]
      refine chooseK_split (fun h5 => ?_) (fun h5 => ?_) <;> simp -implicitDefEqProofs only [h5, f0, f4, f5, f6, wset, tailW, tailEnd, isLenV, isOneV, vop, vbin, vbinI, vun, ↓reduceIte, Nat.reduceEqDiff, Nat.reduceAdd, vcells, vcut, cutSK, cutVK, cutNK, fillV, spl, Nat.reduceLeDiff, V.isNil, bne_self_eq_false]
      · have hjl : j < s.length := by simp at h5; omega
        rw [digN_step hjl] at hg
        have hb : ((s.getD j 0).toNat : Int) = (bN s j : Int) := rfl
        rw [hb]
        have hb8 := bN_lt s j
        refine ⟨by omega, ?_⟩
        refine chooseK_split (fun h6 => ?_) (fun h6 => ?_) <;> simp -implicitDefEqProofs only [h6, f0, f4, f5, f6, wset, tailW, tailEnd, isLenV, isOneV, vop, vbin, vbinI, vun, ↓reduceIte, Nat.reduceEqDiff, Nat.reduceAdd, vcells, vcut, cutSK, cutVK, cutNK, fillV, spl, Nat.reduceLeDiff, V.isNil, bne_self_eq_false]
        · rw [if_neg (by simp at h6; omega)] at hg
          rw [hg] at h
          exact .inl (h 0)
        rw [hb]
        refine ⟨by omega, ?_⟩
        refine chooseK_split (fun h8 => ?_) (fun h8 => ?_) <;> simp -implicitDefEqProofs only [h8, f0, f4, f5, f6, wset, tailW, tailEnd, isLenV, isOneV, vop, vbin, vbinI, vun, ↓reduceIte, Nat.reduceEqDiff, Nat.reduceAdd, vcells, vcut, cutSK, cutVK, cutNK, fillV, spl, Nat.reduceLeDiff, V.isNil, bne_self_eq_false]
        · rw [if_neg (by simp at h8; omega)] at hg
          rw [hg] at h
          exact .inl (h 0)
        rw [if_pos (by simp at h6 h8; omega)] at hg
        have hp18 : 10 ^ j ≤ 10 ^ 18 := Nat.pow_le_pow_right (by omega) (by omega)
        have h18 : 10 ^ 18 = 1000000000000000000 := by decide
        refine ⟨by omega, ?_⟩
        rw [hb, step64 (by omega) (by simp at h6; omega) (by simp at h8; omega), wrap64 (by omega)]
        exact ⟨s.length - (j + 1), by omega, j + 1, u * 10 + (bN s j - 48), by omega, rfl, hg, by rw [Nat.pow_succ]; simp at h8; omega, by simp -implicitDefEqProofs only [f0, wset, tailW, tailEnd, isLenV, isOneV, vop, vbin, vbinI, vun, ↓reduceIte, Nat.reduceEqDiff, Nat.reduceAdd, vcells, vcut, cutSK, cutVK, cutNK, fillV, spl, Nat.reduceLeDiff, V.isNil, bne_self_eq_false], by simp -implicitDefEqProofs only [f4, wset, tailW, tailEnd, isLenV, isOneV, vop, vbin, vbinI, vun, ↓reduceIte, Nat.reduceEqDiff, Nat.reduceAdd, vcells, vcut, cutSK, cutVK, cutNK, fillV, spl, Nat.reduceLeDiff, V.isNil, bne_self_eq_false], by simp -implicitDefEqProofs only [wset, tailW, tailEnd, isLenV, isOneV, vop, vbin, vbinI, vun, ↓reduceIte, Nat.reduceEqDiff, Nat.reduceAdd, vcells, vcut, cutSK, cutVK, cutNK, fillV, spl, Nat.reduceLeDiff, V.isNil, bne_self_eq_false], by simp -implicitDefEqProofs only [wset, tailW, tailEnd, isLenV, isOneV, vop, vbin, vbinI, vun, ↓reduceIte, Nat.reduceEqDiff, Nat.reduceAdd, vcells, vcut, cutSK, cutVK, cutNK, fillV, spl, Nat.reduceLeDiff, V.isNil, bne_self_eq_false]; rfl, rfl⟩
      · have hj2 : j = s.length := by simp at h5; omega
        rw [List.drop_of_length_le (by omega), digN] at hg
        rw [hg] at h
        have hp19 : 10 ^ j ≤ 10 ^ 19 := Nat.pow_le_pow_right (by omega) (by omega)
        rw [pow19] at hp19
        simp only at h
        refine chooseK_split (fun h9 => ?_) (fun h9 => ?_) <;> simp -implicitDefEqProofs only [h9, f0, f4, f5, f6, wset, tailW, tailEnd, isLenV, isOneV, vop, vbin, vbinI, vun, ↓reduceIte, Nat.reduceEqDiff, Nat.reduceAdd, vcells, vcut, cutSK, cutVK, cutNK, fillV, spl, Nat.reduceLeDiff, V.isNil, bne_self_eq_false]
        · rw [if_pos (by have := of_decide_eq_true h9; omega)] at h
          by_cases hu9 : u ≤ 9223372036854775808
          · rw [if_pos hu9] at h
            rw [neg64 hu9, decide_eq_true (by omega)]
            exact .inl h
          · rw [if_neg hu9] at h
            rw [decide_eq_false (by omega)]
            exact .inl (h _)
        · rw [if_neg (by have := of_decide_eq_false h9; omega)] at h
          by_cases hu9 : u < 9223372036854775808
          · rw [if_pos hu9] at h
            rw [pos64 hu9, decide_eq_true (by omega)]
            exact .inl h
          · rw [if_neg hu9] at h
            rw [decide_eq_false (by omega)]
            exact .inl (h _)
    · have hnn : ¬ (s = [] ∨ 19 < s.length ∨ 1 < s.length ∧ bN s 0 = 48) := by
        simp at h2 h3
        rintro (h | h | h)
        · exact hne h
        · omega
        · omega
      rw [if_neg hnn] at h
      have hl19 : s.length ≤ 19 := by simp at h2; omega
      refine LoopP.intro (fun n fr σ' => ∃ (j u : Nat), j ≤ s.length ∧ n = s.length - j ∧ digN s 0 = digN (s.drop j) u ∧ u < 10 ^ j ∧ fr 0 = .str s ∧ fr 4 = .str s ∧ fr 5 = .int .u64 (u : Int) ∧ fr 6 = .int .i64 (j : Int) ∧ σ' = σ) s.length ?_ ?_
      · exact ⟨0, 0, by omega, by omega, by rw [List.drop_zero], by simp, by simp -implicitDefEqProofs only [wset, tailW, tailEnd, isLenV, isOneV, vop, vbin, vbinI, vun, ↓reduceIte, Nat.reduceEqDiff, Nat.reduceAdd, vcells, vcut, cutSK, cutVK, cutNK, fillV, spl, Nat.reduceLeDiff, V.isNil, bne_self_eq_false], by simp -implicitDefEqProofs only [wset, tailW, tailEnd, isLenV, isOneV, vop, vbin, vbinI, vun, ↓reduceIte, Nat.reduceEqDiff, Nat.reduceAdd, vcells, vcut, cutSK, cutVK, cutNK, fillV, spl, Nat.reduceLeDiff, V.isNil, bne_self_eq_false], by simp -implicitDefEqProofs only [Int.natCast_zero, wset, tailW, tailEnd, isLenV, isOneV, vop, vbin, vbinI, vun, ↓reduceIte, Nat.reduceEqDiff, Nat.reduceAdd, vcells, vcut, cutSK, cutVK, cutNK, fillV, spl, Nat.reduceLeDiff, V.isNil, bne_self_eq_false], by simp -implicitDefEqProofs only [Int.natCast_zero, wset, tailW, tailEnd, isLenV, isOneV, vop, vbin, vbinI, vun, ↓reduceIte, Nat.reduceEqDiff, Nat.reduceAdd, vcells, vcut, cutSK, cutVK, cutNK, fillV, spl, Nat.reduceLeDiff, V.isNil, bne_self_eq_false], rfl⟩
      rintro n fr σ' ⟨j, u, hj, rfl, hg, hu, f0, f4, f5, f6, rfl⟩
      simp -implicitDefEqProofs only [f0, f4, f5, f6, wset, tailW, tailEnd, isLenV, isOneV, vop, vbin, vbinI, vun, ↓reduceIte, Nat.reduceEqDiff, Nat.reduceAdd, vcells, vcut, cutSK, cutVK, cutNK, fillV, spl, Nat.reduceLeDiff, V.isNil, bne_self_eq_false]
      refine chooseK_split (fun h5 => ?_) (fun h5 => ?_) <;> simp -implicitDefEqProofs only [h5, f0, f4, f5, f6, wset, tailW, tailEnd, isLenV, isOneV, vop, vbin, vbinI, vun, ↓reduceIte, Nat.reduceEqDiff, Nat.reduceAdd, vcells, vcut, cutSK, cutVK, cutNK, fillV, spl, Nat.reduceLeDiff, V.isNil, bne_self_eq_false]
      · have hjl : j < s.length := by simp at h5; omega
        rw [digN_step hjl] at hg
        have hb : ((s.getD j 0).toNat : Int) = (bN s j : Int) := rfl
        rw [hb]
        have hb8 := bN_lt s j
        refine ⟨by omega, ?_⟩
        refine chooseK_split (fun h6 => ?_) (fun h6 => ?_) <;> simp -implicitDefEqProofs only [h6, f0, f4, f5, f6, wset, tailW, tailEnd, isLenV, isOneV, vop, vbin, vbinI, vun, ↓reduceIte, Nat.reduceEqDiff, Nat.reduceAdd, vcells, vcut, cutSK, cutVK, cutNK, fillV, spl, Nat.reduceLeDiff, V.isNil, bne_self_eq_false]
        · rw [if_neg (by simp at h6; omega)] at hg
          rw [hg] at h
          exact .inl (h 0)
        rw [hb]
        refine ⟨by omega, ?_⟩
        refine chooseK_split (fun h8 => ?_) (fun h8 => ?_) <;> simp -implicitDefEqProofs only [h8, f0, f4, f5, f6, wset, tailW, tailEnd, isLenV, isOneV, vop, vbin, vbinI, vun, ↓reduceIte, Nat.reduceEqDiff, Nat.reduceAdd, vcells, vcut, cutSK, cutVK, cutNK, fillV, spl, Nat.reduceLeDiff, V.isNil, bne_self_eq_false]
        · rw [if_neg (by simp at h8; omega)] at hg
          rw [hg] at h
          exact .inl (h 0)
        rw [if_pos (by simp at h6 h8; omega)] at hg
        have hp18 : 10 ^ j ≤ 10 ^ 18 := Nat.pow_le_pow_right (by omega) (by omega)
        have h18 : 10 ^ 18 = 1000000000000000000 := by decide
        refine ⟨by omega, ?_⟩
        rw [hb, step64 (by omega) (by simp at h6; omega) (by simp at h8; omega), wrap64 (by omega)]
        exact ⟨s.length - (j + 1), by omega, j + 1, u * 10 + (bN s j - 48), by omega, rfl, hg, by rw [Nat.pow_succ]; simp at h8; omega, by simp -implicitDefEqProofs only [f0, wset, tailW, tailEnd, isLenV, isOneV, vop, vbin, vbinI, vun, ↓reduceIte, Nat.reduceEqDiff, Nat.reduceAdd, vcells, vcut, cutSK, cutVK, cutNK, fillV, spl, Nat.reduceLeDiff, V.isNil, bne_self_eq_false], by simp -implicitDefEqProofs only [f4, wset, tailW, tailEnd, isLenV, isOneV, vop, vbin, vbinI, vun, ↓reduceIte, Nat.reduceEqDiff, Nat.reduceAdd, vcells, vcut, cutSK, cutVK, cutNK, fillV, spl, Nat.reduceLeDiff, V.isNil, bne_self_eq_false], by simp -implicitDefEqProofs only [wset, tailW, tailEnd, isLenV, isOneV, vop, vbin, vbinI, vun, ↓reduceIte, Nat.reduceEqDiff, Nat.reduceAdd, vcells, vcut, cutSK, cutVK, cutNK, fillV, spl, Nat.reduceLeDiff, V.isNil, bne_self_eq_false], by simp -implicitDefEqProofs only [wset, tailW, tailEnd, isLenV, isOneV, vop, vbin, vbinI, vun, ↓reduceIte, Nat.reduceEqDiff, Nat.reduceAdd, vcells, vcut, cutSK, cutVK, cutNK, fillV, spl, Nat.reduceLeDiff, V.isNil, bne_self_eq_false]; rfl, rfl⟩
      · have hj2 : j = s.length := by simp at h5; omega
        rw [List.drop_of_length_le (by omega), digN] at hg
        rw [hg] at h
        have hp19 : 10 ^ j ≤ 10 ^ 19 := Nat.pow_le_pow_right (by omega) (by omega)
        rw [pow19] at hp19
        simp only at h
        refine chooseK_split (fun h9 => ?_) (fun h9 => ?_) <;> simp -implicitDefEqProofs only [h9, f0, f4, f5, f6, wset, tailW, tailEnd, isLenV, isOneV, vop, vbin, vbinI, vun, ↓reduceIte, Nat.reduceEqDiff, Nat.reduceAdd, vcells, vcut, cutSK, cutVK, cutNK, fillV, spl, Nat.reduceLeDiff, V.isNil, bne_self_eq_false]
        · rw [if_pos (by have := of_decide_eq_true h9; omega)] at h
          by_cases hu9 : u ≤ 9223372036854775808
          · rw [if_pos hu9] at h
            rw [neg64 hu9, decide_eq_true (by omega)]
            exact .inl h
          · rw [if_neg hu9] at h
            rw [decide_eq_false (by omega)]
            exact .inl (h _)
        · rw [if_neg (by have := of_decide_eq_false h9; omega)] at h
          by_cases hu9 : u < 9223372036854775808
          · rw [if_pos hu9] at h
            rw [pos64 hu9, decide_eq_true (by omega)]
            exact .inl h
          · rw [if_neg hu9] at h
            rw [decide_eq_false (by omega)]
            exact .inl (h _)
end Go.Proofs.YtgdcdkgmeomhpaaGreatDoor

namespace Go.Proofs.YtgdcdkgmeomhpaaGreatDoor
open Go Go.Vs
set_option maxRecDepth 20000
attribute [local irreducible] chooseK

theorem r11spaces_C {s : List UInt8} {i : Nat} {σ : St} {Q : Out → St → Prop} (hi : i ≤ s.length) (hs : s.length ≤ big) (h : Q (.ret (.int .i64 (skipSp s i : Int))) σ) : C Xc 20 [.str s, .int .i64 (i : Int)] σ Q := by
  unfold big at hs
  refine body cf_r11spaces (Eq.refl true) ?_
  simp -implicitDefEqProofs only [vf_r11spaces, wset, tailW, tailEnd, isLenV, isOneV, vop, vbin, vbinI, vun, ↓reduceIte, Nat.reduceEqDiff, Nat.reduceAdd, vcells, vcut, cutSK, cutVK, cutNK, fillV, spl, Nat.reduceLeDiff, V.isNil, bne_self_eq_false]
  refine LoopP.intro (fun n fr σ' => ∃ j, j ≤ s.length ∧ n = s.length - j ∧ skipSp s j = skipSp s i ∧ fr 0 = .str s ∧ fr 1 = .int .i64 (j : Int) ∧ σ = σ') (s.length - i)
    ⟨i, hi, rfl, rfl, rfl, rfl, rfl⟩ ?_
  rintro n fr σ' ⟨j, hj, rfl, hjs, f0, f1, rfl⟩
  simp -implicitDefEqProofs only [f0, f1, wset, tailW, tailEnd, isLenV, isOneV, vop, vbin, vbinI, vun, ↓reduceIte, Nat.reduceEqDiff, Nat.reduceAdd, vcells, vcut, cutSK, cutVK, cutNK, fillV, spl, Nat.reduceLeDiff, V.isNil, bne_self_eq_false]
  refine chooseK_split (fun g1 => ?_) (fun g1 => ?_) <;> simp -implicitDefEqProofs only [g1, f0, f1, wset, tailW, tailEnd, isLenV, isOneV, vop, vbin, vbinI, vun, ↓reduceIte, Nat.reduceEqDiff, Nat.reduceAdd, vcells, vcut, cutSK, cutVK, cutNK, fillV, spl, Nat.reduceLeDiff, V.isNil, bne_self_eq_false]
  · have hjl : j < s.length := by simp at g1; omega
    have hst := skipSp_step hjl
    refine ⟨by omega, ?_⟩
    refine r01IsSpace_C ?_
    simp -implicitDefEqProofs only [f0, f1, wset, tailW, tailEnd, isLenV, isOneV, vop, vbin, vbinI, vun, ↓reduceIte, Nat.reduceEqDiff, Nat.reduceAdd, vcells, vcut, cutSK, cutVK, cutNK, fillV, spl, Nat.reduceLeDiff, V.isNil, bne_self_eq_false]
    refine chooseK_split (fun g2 => ?_) (fun g2 => ?_) <;> simp -implicitDefEqProofs only [g2, f0, f1, wset, tailW, tailEnd, isLenV, isOneV, vop, vbin, vbinI, vun, ↓reduceIte, Nat.reduceEqDiff, Nat.reduceAdd, vcells, vcut, cutSK, cutVK, cutNK, fillV, spl, Nat.reduceLeDiff, V.isNil, bne_self_eq_false]
    · rw [if_pos g2] at hst
      rw [wrap64 (by omega)]
      exact ⟨s.length - (j + 1), by omega, j + 1, by omega, rfl, by rw [← hjs, hst], f0, rfl, rfl⟩
    · rw [if_neg (by rw [g2]; simp)] at hst
      rw [← hjs, hst] at h
      exact .inl h
  · have : j = s.length := by simp at g1; omega
    subst this
    rw [← hjs, skipSp_end] at h
    exact .inl h

theorem num_or (c : UInt8) : numSet.contains c = ((decide ((c.toNat : Int) ≥ 48) && decide ((c.toNat : Int) ≤ 57)) || ((c.toNat : Int) == 43 || ((c.toNat : Int) == 45 || ((c.toNat : Int) == 46 || ((c.toNat : Int) == 101 || (c.toNat : Int) == 69))))) :=
  eq_of_beq (all_u8 (p := fun c => numSet.contains c == ((decide ((c.toNat : Int) ≥ 48) && decide ((c.toNat : Int) ≤ 57)) || ((c.toNat : Int) == 43 || ((c.toNat : Int) == 45 || ((c.toNat : Int) == 46 || ((c.toNat : Int) == 101 || (c.toNat : Int) == 69)))))) (by kernel_rfl) c)

theorem r11numeric_C {c : UInt8} {σ : St} {Q : Out → St → Prop} (h : Q (.ret (.bool (numSet.contains c))) σ) : C Xc 41 [.int .u8 (c.toNat : Int)] σ Q := by
  rw [num_or] at h
  refine body cf_r11numeric (Eq.refl true) ?_
  simp -implicitDefEqProofs only [vf_r11numeric, wset, tailW, tailEnd, isLenV, isOneV, vop, vbin, vbinI, vun, ↓reduceIte, Nat.reduceEqDiff, Nat.reduceAdd, vcells, vcut, cutSK, cutVK, cutNK, fillV, spl, Nat.reduceLeDiff, V.isNil, bne_self_eq_false]
  repeat' first
    | refine And.intro (by omega) ?_
    | (refine chooseK_split (fun hh => ?_) (fun hh => ?_) <;> simp -implicitDefEqProofs only [hh, wset, wset, tailW, tailEnd, isLenV, isOneV, vop, vbin, vbinI, vun, ↓reduceIte, Nat.reduceEqDiff, Nat.reduceAdd, vcells, vcut, cutSK, cutVK, cutNK, fillV, spl, Nat.reduceLeDiff, V.isNil, bne_self_eq_false])
  all_goals
    refine .inl ?_
    rename_i hh
    simp only [*, Bool.true_and, Bool.false_and, Bool.true_or, Bool.false_or, Bool.or_true] at h
    exact h

def begL : List UInt8 := [110, 116, 102, 34, 45, 48, 49, 50, 51, 52, 53, 54, 55, 56, 57, 91, 123]
theorem beg_has (c : UInt8) : beginsB c = begL.contains c := eq_of_beq (all_u8 (p := fun c => beginsB c == begL.contains c) (by kernel_rfl) c)
theorem r11begins_C {c : UInt8} {σ : St} {Q : Out → St → Prop} (h : Q (.ret (.bool (beginsB c))) σ) : C Xc 37 [.int .u8 (c.toNat : Int)] σ Q := by
  rw [beg_has] at h
  refine body cf_r11begins (Eq.refl true) ?_
  simp -implicitDefEqProofs only [vf_r11begins, wset, tailW, tailEnd, isLenV, isOneV, vop, vbin, vbinI, vun, ↓reduceIte, Nat.reduceEqDiff, Nat.reduceAdd, vcells, vcut, cutSK, cutVK, cutNK, fillV, spl, Nat.reduceLeDiff, V.isNil, bne_self_eq_false]
  have hL : begL.length = 17 := rfl
  refine LoopP.intro (fun n fr σ' => ∃ j, j ≤ 17 ∧ n = 17 - j ∧ (∀ i, i < j → begL.getD i 0 ≠ c) ∧ fr 0 = .int .u8 (c.toNat : Int) ∧ fr 3 = .str begL ∧ fr 4 = .int .i64 (j : Int) ∧ σ = σ') 17
    ⟨0, by omega, rfl, fun i hi => by omega, rfl, rfl, rfl, rfl⟩ ?_
  rintro n fr σ' ⟨j, hj, rfl, hno, f0, f3, f4, rfl⟩
  simp -implicitDefEqProofs only [f0, f3, f4, hL, wset, tailW, tailEnd, isLenV, isOneV, vop, vbin, vbinI, vun, ↓reduceIte, Nat.reduceEqDiff, Nat.reduceAdd, vcells, vcut, cutSK, cutVK, cutNK, fillV, spl, Nat.reduceLeDiff, V.isNil, bne_self_eq_false]
  refine chooseK_split (fun g1 => ?_) (fun g1 => ?_) <;> simp -implicitDefEqProofs only [g1, f0, f3, f4, wset, tailW, tailEnd, isLenV, isOneV, vop, vbin, vbinI, vun, ↓reduceIte, Nat.reduceEqDiff, Nat.reduceAdd, vcells, vcut, cutSK, cutVK, cutNK, fillV, spl, Nat.reduceLeDiff, V.isNil, bne_self_eq_false]
  · have hjl : j < 17 := by simp at g1; omega
    refine ⟨by omega, ?_⟩
    refine chooseK_split (fun g2 => ?_) (fun g2 => ?_) <;> simp -implicitDefEqProofs only [g2, f0, f3, f4, wset, tailW, tailEnd, isLenV, isOneV, vop, vbin, vbinI, vun, ↓reduceIte, Nat.reduceEqDiff, Nat.reduceAdd, vcells, vcut, cutSK, cutVK, cutNK, fillV, spl, Nat.reduceLeDiff, V.isNil, bne_self_eq_false]
    · have : begL.contains c = true := by
        rw [List.contains_iff_mem]
        have e : begL.getD j 0 = c := UInt8.toNat_inj.1 (by have := eq_of_beq g2; omega)
        rw [← e]
        exact getD_mem (by rw [hL]; exact hjl)
      rw [this] at h
      exact .inl h
    · rw [wrap64 (by omega)]
      refine ⟨17 - (j + 1), by omega, j + 1, by omega, rfl, fun i hi e => ?_, f0, f3, rfl, rfl⟩
      by_cases hij : i = j
      · subst hij; rw [e] at g2; simp at g2
      · exact hno i (by omega) e
  · have : begL.contains c = false := by
      rw [← Bool.not_eq_true, List.contains_iff_mem]
      intro hm
      obtain ⟨i, hi, e⟩ := List.getElem_of_mem hm
      have := hno i (by rw [hL] at hi; simp at g1; omega)
      rw [List.getD_eq_getElem?_getD, List.getElem?_eq_getElem hi] at this
      exact this e
    rw [this] at h
    exact .inl h

/-- A result: a value, an offset, an error. -/
def res9 (v : List V) (a e : Int) : V := .agg (v ++ [.int .i64 a, .int .i64 e])
def resV : Res JV → V
  | .ok (v, i) => res9 v.cells (i : Int) 0
  | .error x => res9 zero7 (x.1 : Int) (x.2 : Int)
theorem zero7_clean (k : Nat) : cleanL k zero7 = zero7 := by simp [zero7, cleanL, V.clean, Tk.clean]
theorem zero7_fits (n nm k : Nat) : fitsL n nm k zero7 = true := by simp [zero7, fitsL, V.fits, Tk.fits]
theorem resV_clean (k : Nat) (r : Res JV) : Out.clean k (.ret (resV r)) = .ret (resV r) := by
  cases r with
  | ok r => simp [resV, res9, Out.clean, V.clean, cleanL, cleanL_append, JV.clean]
  | error x => simp [resV, res9, Out.clean, V.clean, cleanL, cleanL_append, zero7_clean]
theorem resV_fits (n nm k : Nat) (r : Res JV) : Out.fits n nm k (.ret (resV r)) = true := by
  cases r with
  | ok r => simp [resV, res9, Out.fits, V.fits, fitsL, fitsL_append, JV.fits]
  | error x => simp [resV, res9, Out.fits, V.fits, fitsL, fitsL_append, zero7_fits]
theorem exitRes {σ : St} (hw : σ.wf) {xo : List (List V)} {xy : List TypeId} {xt : List Nat} {xtt : List TypeId} {Q : Out → St → Prop} {r : Res JV} (h : Q (.ret (resV r)) σ) :
    ExitOk σ Q (.ret (resV r)) ⟨σ.objs ++ xo, σ.maps, σ.toks ++ xt, σ.tys ++ xy, σ.tts ++ xtt⟩ := exitNewT hw (resV_clean _ _) (resV_fits _ _ _ _) h
theorem exitRes0 {σ : St} (hw : σ.wf) {xo : List (List V)} {xy : List TypeId} {Q : Out → St → Prop} {r : Res JV} (h : Q (.ret (resV r)) σ) :
    ExitOk σ Q (.ret (resV r)) ⟨σ.objs ++ xo, σ.maps, σ.toks, σ.tys ++ xy, σ.tts⟩ := exitNew hw (resV_clean _ _) (resV_fits _ _ _ _) h

theorem r11wrong_C {s : List UInt8} {i : Nat} {σ : St} {Q : Out → St → Prop} (hi : i ≤ s.length) (h : Q (.ret (resV (.error (wrongR s i)))) σ) : C Xc 36 [.str s, .int .i64 (i : Int)] σ Q := by
  refine bodyW cf_r11wrong (Eq.refl true) fun hw => ?_
  simp -implicitDefEqProofs only [vf_r11wrong, List.append_assoc, getL, getL0, setL, setL0, List.set_cons_zero, List.set_cons_succ, wset, tailW, tailEnd, isLenV, isOneV, vop, vbin, vbinI, vun, ↓reduceIte, Nat.reduceEqDiff, Nat.reduceAdd, vcells, vcut, cutSK, cutVK, cutNK, fillV, spl, Nat.reduceLeDiff, V.isNil, bne_self_eq_false]
  refine chooseK_split (fun g1 => ?_) (fun g1 => ?_) <;> simp -implicitDefEqProofs only [g1, List.append_assoc, getL, getL0, setL, setL0, List.set_cons_zero, List.set_cons_succ, wset, tailW, tailEnd, isLenV, isOneV, vop, vbin, vbinI, vun, ↓reduceIte, Nat.reduceEqDiff, Nat.reduceAdd, vcells, vcut, cutSK, cutVK, cutNK, fillV, spl, Nat.reduceLeDiff, V.isNil, bne_self_eq_false]
  · have : i = s.length := by simp at g1; omega
    rw [wrongR, if_pos this, this] at h
    exact exitRes0 hw h
  · have : i ≠ s.length := by simp at g1; omega
    rw [wrongR, if_neg this] at h
    exact exitRes0 hw h

def JV.setAt : JV → Int → JV
  | .mk k b n s ni is nm ms _, a => .mk k b n s ni is nm ms a

theorem r11word_C {s name : List UInt8} {i : Nat} {v : JV} {σ : St} {Q : Out → St → Prop} (hi : i < s.length) (hs : s.length ≤ big) (hn : name.length ≤ big) (h : Q (.ret (resV (wordS s i name (v.setAt i)))) σ) :
    C Xc 38 [.str s, .int .i64 (i : Int), .str name, v.enc] σ Q := by
  have hs' := hs
  have hn' := hn
  unfold big at hs' hn'
  unfold wordS at h
  obtain ⟨k, b, n, st, ni, is, nm, ms, a⟩ := v
  refine bodyW cf_r11word (Eq.refl true) fun hw => ?_
  simp -implicitDefEqProofs only [vf_r11word, JV.enc, JV.cells, List.append_assoc, getL, getL0, setL, setL0, List.set_cons_zero, List.set_cons_succ, wset, tailW, tailEnd, isLenV, isOneV, vop, vbin, vbinI, vun, ↓reduceIte, Nat.reduceEqDiff, Nat.reduceAdd, vcells, vcut, cutSK, cutVK, cutNK, fillV, spl, Nat.reduceLeDiff, V.isNil, bne_self_eq_false]
  refine r06Has_C (by omega) hs hn ?_
  simp -implicitDefEqProofs only [List.append_assoc, getL, getL0, setL, setL0, List.set_cons_zero, List.set_cons_succ, wset, tailW, tailEnd, isLenV, isOneV, vop, vbin, vbinI, vun, ↓reduceIte, Nat.reduceEqDiff, Nat.reduceAdd, vcells, vcut, cutSK, cutVK, cutNK, fillV, spl, Nat.reduceLeDiff, V.isNil, bne_self_eq_false]
  refine chooseK_split (fun g1 => ?_) (fun g1 => ?_) <;> simp -implicitDefEqProofs only [g1, List.append_assoc, getL, getL0, setL, setL0, List.set_cons_zero, List.set_cons_succ, wset, tailW, tailEnd, isLenV, isOneV, vop, vbin, vbinI, vun, ↓reduceIte, Nat.reduceEqDiff, Nat.reduceAdd, vcells, vcut, cutSK, cutVK, cutNK, fillV, spl, Nat.reduceLeDiff, V.isNil, bne_self_eq_false]
  · rw [if_pos g1] at h
    rw [wrap64 (by omega)]
    exact exitRes0 hw h
  · rw [if_neg (by rw [g1]; simp)] at h
    refine r11wrong_C (by omega) ?_
    rw [wrongR, if_neg (by omega)]
    simp -implicitDefEqProofs only [resV, res9, zero7, List.append_assoc, getL, getL0, setL, setL0, List.set_cons_zero, List.set_cons_succ, wset, tailW, tailEnd, isLenV, isOneV, vop, vbin, vbinI, vun, ↓reduceIte, Nat.reduceEqDiff, Nat.reduceAdd, vcells, vcut, cutSK, cutVK, cutNK, fillV, spl, Nat.reduceLeDiff, V.isNil, bne_self_eq_false]
    exact exitRes0 hw h
end Go.Proofs.YtgdcdkgmeomhpaaGreatDoor
