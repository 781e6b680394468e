/- 'JsonvalueFunctions' holds: for every two JSON values and every string the law on Get, Strip, Depth and Equal of chapter 11 returns true and leaves its arguments as they were, where the listed package variables start as the program's text lays them (the tied card). -/
import Derived.Handed
import Derived.LaidLaws
import Derived.Lib.LaidU8
import Derived.ProofKit
import Derived.JoinedOf
import Derived.Test.YtgdcdkgmeomhpaaDoorTie
import Derived.SevenTiedAt
import Derived.Test.YtgdcdkgmeomhpaaDoorCards
import Derived.Test.YtgdcdkgmeomhpaaDoorFu1
import Derived.Test.YtgdcdkgmeomhpaaDoorFu2
import Derived.Test.YtgdcdkgmeomhpaaDoorFu3
import Derived.Test.YtgdcdkgmeomhpaaDoorFu4
set_option linter.unusedVariables false
set_option linter.unusedSimpArgs false

namespace Go.Proofs.YtgdcdkgmeomhpaaDoor
open Go Go.Vs
set_option maxRecDepth 20000
attribute [local irreducible] chooseK

/-- A list that is being appended to: nil at first, then the owner of row number T. -/
def grow (T : Nat) (xs : List V) : V := .slc (!xs.isEmpty) xs (if xs.isEmpty then .no else .own T)
def tkl (xs : List V) : List Nat := if xs.isEmpty then [] else [xs.length]
def ttl (e : TypeId) (xs : List V) : List TypeId := if xs.isEmpty then [] else [e]

theorem vapp_grow {e : TypeId} {sz : Nat} {σ : St} {xs : List V} {y : V} {T0 : List Nat} {U0 : List TypeId} {K : V → St → Prop} (hx : ∀ x ∈ xs, x.cells.length = sz) (hy : y.cells.length = sz) (ht : y.notTup = true) (hl : xs.length + 1 ≤ big)
    (h1 : σ.toks = T0 ++ tkl xs) (h2 : σ.tts = U0 ++ ttl e xs) (h3 : U0.length = T0.length)
    (h : K (grow T0.length (xs ++ [y])) ⟨σ.objs, σ.maps, T0 ++ tkl (xs ++ [y]), σ.tys, U0 ++ ttl e (xs ++ [y])⟩) : vapp e sz σ (grow T0.length xs) [y] K := by
  obtain ⟨O, M, T, Y, U⟩ := σ
  simp only at h1 h2 h
  subst h1
  subst h2
  cases xs with
  | nil =>
    refine vapp1_nil hy ht ?_
    simpa [grow, tkl, ttl] using h
  | cons x r =>
    refine vapp1_own hx (by simp) hl hy ht (app_get _ _ rfl) (by rw [← h3]; exact app_get _ _ rfl) ?_
    simpa [grow, tkl, ttl, List.set_append_right] using h

theorem grow_cells {T : Nat} {xs : List V} : (grow T xs).cells = [grow T xs] := rfl
theorem grow_notTup {T : Nat} {xs : List V} : (grow T xs).notTup = true := rfl
theorem grow_clean {T k : Nat} {xs : List V} (hk : k ≤ T) (h : cleanL k xs = xs) : (grow T xs).clean k = slcE false xs := by
  cases xs with
  | nil => simp [grow, V.clean, slcE, cleanL, Tk.clean]
  | cons x r =>
    simp only [grow, V.clean, slcE, h, List.isEmpty_cons, Bool.not_false, Bool.false_or, Bool.false_eq_true, ↓reduceIte, Tk.clean]
    rw [if_neg (by omega)]

/-- Objects and rows were made, and none of them is told of. -/
theorem exitNewT {σ : St} (hw : σ.wf) {xo : List (List V)} {xy : List TypeId} {xt : List Nat} {xtt : List TypeId} {Q : Out → St → Prop} {out out' : Out} (hc : out.clean σ.toks.length = out') (hf : out'.fits σ.objs.length σ.maps.length σ.toks.length = true) (h : Q out' σ) :
    ExitOk σ Q out ⟨σ.objs ++ xo, σ.maps, σ.toks ++ xt, σ.tys ++ xy, σ.tts ++ xtt⟩ := by
  have := exitCut (xo := xo) (xm := []) (xt := xt) (xy := xy) (xtt := xtt) (σ0 := σ) (O := σ.objs) (M := σ.maps) (T := σ.toks) (Y := σ.tys) (TT := σ.tts) (Q := Q) (out := out) rfl rfl rfl hw.1 hw.2 (by rw [hc]; exact hf) (fun o cs ho => .inl ho) (fun r es hr => .inl hr) (by rw [hc]; exact h)
  simpa using this

mutual
/-- The value without its offsets. -/
def stripJ : JV → JV
  | .mk k b n s _ is _ ms _ => .mk k b n s false (stripL is) false (stripM ms) 0
def stripL : List JV → List JV
  | [] => []
  | v :: r => stripJ v :: stripL r
def stripMm : JM → JM
  | .mk key v _ => .mk key (stripJ v) 0
def stripM : List JM → List JM
  | [] => []
  | m :: r => stripMm m :: stripM r
end
theorem stripL_map : ∀ l : List JV, stripL l = l.map stripJ
  | [] => rfl
  | v :: r => by rw [stripL, stripL_map r]; rfl
theorem stripM_map : ∀ l : List JM, stripM l = l.map stripMm
  | [] => rfl
  | v :: r => by rw [stripM, stripM_map r]; rfl
theorem take_snoc {α : Type} {l : List α} {j : Nat} (d : α) (h : j < l.length) : l.take (j + 1) = l.take j ++ [l.getD j d] := by
  rw [List.take_add_one, List.getD_eq_getElem?_getD, List.getElem?_eq_getElem h]; rfl

theorem strip_C : ∀ (N : Nat) (v : JV), v.wt ≤ N → v.wt ≤ big → ∀ (σ : St) (Q : Out → St → Prop), Q (.ret (stripJ v).enc) σ → C Xc 10 [v.enc] σ Q := by
  intro N
  induction N with
  | zero => intro v hv; have := v.wt_pos; omega
  | succ N ih =>
    intro v hv hb σ Q h
    obtain ⟨k, b, n, s, ni, is, nm, ms, a⟩ := v
    unfold big at hb
    rw [JV.wt] at hv hb
    have hwL := wtL_len is
    have hwM := wtM_len ms
    rw [stripJ, stripL_map, stripM_map] at h
    refine bodyW cf_jvStrip (Eq.refl true) fun hw => ?_
    simp -implicitDefEqProofs only [vf_jvStrip, JV.enc, JV.cells, slcE, List.append_assoc, getL, getL0, setL, setL0, List.set_cons_zero, List.set_cons_succ, encL_len, wset, tailW, tailEnd, isLenV, isOneV, vop, vbin, vbinI, vun, ↓reduceIte, Nat.reduceEqDiff, Nat.reduceAdd, vcells, vcut, cutSK, cutVK, cutNK, fillV, spl, Nat.reduceLeDiff, V.isNil, bne_self_eq_false]
    refine LoopP.intro (fun n' fr σ' => ∃ (j : Nat) (X : List (List V)) (Y : List TypeId), j ≤ is.length ∧ n' = is.length - j ∧ fr 1 = .ref (some (σ.objs.length, 0)) ∧ fr 2 = .ref (some (σ.objs.length + 1, 0)) ∧ fr 3 = .ref (some (σ.objs.length + 2, 0)) ∧
        fr 18 = .slc (ni || !(encL is).isEmpty) (encL is) .no ∧ fr 19 = .int .i64 (is.length : Int) ∧ fr 20 = .int .i64 (j : Int) ∧
        σ' = ⟨σ.objs ++ ([.int .i64 k, .bool b, .int .i64 n, .str s, slcE ni (encL is), slcE nm (encMs ms), .int .i64 a] :: zero7 :: [.int .i64 k, .bool b, .int .i64 n, .str s, grow σ.toks.length (encL ((is.map stripJ).take j)), .slc false [] .no, .int .i64 0] :: X), σ.maps,
          σ.toks ++ tkl (encL ((is.map stripJ).take j)), σ.tys ++ Y, σ.tts ++ ttl 25 (encL ((is.map stripJ).take j))⟩) is.length ?_ ?_
    · exact ⟨0, [], _, by omega, by omega, by simp -implicitDefEqProofs only [wset, tailW, tailEnd, isLenV, isOneV, vop, vbin, vbinI, vun, ↓reduceIte, Nat.reduceEqDiff, Nat.reduceAdd, vcells, vcut, cutSK, cutVK, cutNK, fillV, spl, Nat.reduceLeDiff, V.isNil, bne_self_eq_false], by simp -implicitDefEqProofs only [wset, tailW, tailEnd, isLenV, isOneV, vop, vbin, vbinI, vun, ↓reduceIte, Nat.reduceEqDiff, Nat.reduceAdd, vcells, vcut, cutSK, cutVK, cutNK, fillV, spl, Nat.reduceLeDiff, V.isNil, bne_self_eq_false], by simp -implicitDefEqProofs only [wset, tailW, tailEnd, isLenV, isOneV, vop, vbin, vbinI, vun, ↓reduceIte, Nat.reduceEqDiff, Nat.reduceAdd, vcells, vcut, cutSK, cutVK, cutNK, fillV, spl, Nat.reduceLeDiff, V.isNil, bne_self_eq_false], by simp -implicitDefEqProofs only [wset, tailW, tailEnd, isLenV, isOneV, vop, vbin, vbinI, vun, ↓reduceIte, Nat.reduceEqDiff, Nat.reduceAdd, vcells, vcut, cutSK, cutVK, cutNK, fillV, spl, Nat.reduceLeDiff, V.isNil, bne_self_eq_false], by simp -implicitDefEqProofs only [wset, tailW, tailEnd, isLenV, isOneV, vop, vbin, vbinI, vun, ↓reduceIte, Nat.reduceEqDiff, Nat.reduceAdd, vcells, vcut, cutSK, cutVK, cutNK, fillV, spl, Nat.reduceLeDiff, V.isNil, bne_self_eq_false], by simp -implicitDefEqProofs only [Int.natCast_zero, wset, tailW, tailEnd, isLenV, isOneV, vop, vbin, vbinI, vun, ↓reduceIte, Nat.reduceEqDiff, Nat.reduceAdd, vcells, vcut, cutSK, cutVK, cutNK, fillV, spl, Nat.reduceLeDiff, V.isNil, bne_self_eq_false], by simp [grow, tkl, ttl, encL, zero7, slcE]; rfl⟩
    rintro n' fr σ' ⟨j, X, Y, hj, rfl, f1, f2, f3, f18, f19, f20, rfl⟩
    simp -implicitDefEqProofs only [f1, f2, f3, f18, f19, f20, wset, tailW, tailEnd, isLenV, isOneV, vop, vbin, vbinI, vun, ↓reduceIte, Nat.reduceEqDiff, Nat.reduceAdd, vcells, vcut, cutSK, cutVK, cutNK, fillV, spl, Nat.reduceLeDiff, V.isNil, bne_self_eq_false]
    refine chooseK_split (fun h2 => ?_) (fun h2 => ?_) <;> simp -implicitDefEqProofs only [h2, f1, f2, f3, f18, f19, f20, encL_len, wset, tailW, tailEnd, isLenV, isOneV, vop, vbin, vbinI, vun, ↓reduceIte, Nat.reduceEqDiff, Nat.reduceAdd, vcells, vcut, cutSK, cutVK, cutNK, fillV, spl, Nat.reduceLeDiff, V.isNil, bne_self_eq_false]
    · have hjl : j < is.length := by simp at h2; omega
      refine ⟨by omega, encL_cells is, ?_⟩
      rw [encL_get is j hjl]
      have hm := getD_mem (d := jnull) hjl
      have hwt := wtL_mem hm
      have htk := take_snoc (l := is.map stripJ) (stripJ jnull) (j := j) (by simpa using hjl)
      have hg0 : (is.map stripJ).getD j (stripJ jnull) = stripJ (is.getD j jnull) := by simp [List.getD_eq_getElem?_getD, List.getElem?_eq_getElem hjl]
      rw [hg0] at htk
      have hjL : ((is.map stripJ).take j).length = j := by simp; omega
      generalize (is.map stripJ).take j = st at *
      generalize hv0 : is.getD j jnull = v0 at *
      simp -implicitDefEqProofs only [JV.enc, JV.len, take7, List.append_assoc, getL, getL0, setL, setL0, List.set_cons_zero, List.set_cons_succ, f3, wset, tailW, tailEnd, isLenV, isOneV, vop, vbin, vbinI, vun, ↓reduceIte, Nat.reduceEqDiff, Nat.reduceAdd, vcells, vcut, cutSK, cutVK, cutNK, fillV, spl, Nat.reduceLeDiff, V.isNil, bne_self_eq_false]
      refine ih v0 (by omega) (by unfold big; omega) _ _ ?_
      simp -implicitDefEqProofs only [f1, f2, f3, f18, f19, f20, List.append_assoc, getL, getL0, setL, setL0, List.set_cons_zero, List.set_cons_succ, wset, tailW, tailEnd, isLenV, isOneV, vop, vbin, vbinI, vun, ↓reduceIte, Nat.reduceEqDiff, Nat.reduceAdd, vcells, vcut, cutSK, cutVK, cutNK, fillV, spl, Nat.reduceLeDiff, V.isNil, bne_self_eq_false]
      refine ⟨fun x hx => by rw [List.mem_singleton.1 hx]; exact ⟨JV.len _, rfl⟩, ?_⟩
      refine vapp_grow (encL_cells st) (JV.len _) rfl (by rw [encL_len]; unfold big; omega) rfl rfl hw.2 ?_
      simp -implicitDefEqProofs only [f1, f2, f3, f18, f19, f20, List.append_assoc, getL, getL0, setL, setL0, List.set_cons_zero, List.set_cons_succ, grow_cells, grow_notTup, wset, tailW, tailEnd, isLenV, isOneV, vop, vbin, vbinI, vun, ↓reduceIte, Nat.reduceEqDiff, Nat.reduceAdd, vcells, vcut, cutSK, cutVK, cutNK, fillV, spl, Nat.reduceLeDiff, V.isNil, bne_self_eq_false]
      rw [wrap64 (by omega)]
      refine ⟨is.length - (j + 1), by omega, j + 1, X ++ [v0.cells], Y ++ [25], by omega, rfl, by simp -implicitDefEqProofs only [f1, wset, tailW, tailEnd, isLenV, isOneV, vop, vbin, vbinI, vun, ↓reduceIte, Nat.reduceEqDiff, Nat.reduceAdd, vcells, vcut, cutSK, cutVK, cutNK, fillV, spl, Nat.reduceLeDiff, V.isNil, bne_self_eq_false], by simp -implicitDefEqProofs only [f2, wset, tailW, tailEnd, isLenV, isOneV, vop, vbin, vbinI, vun, ↓reduceIte, Nat.reduceEqDiff, Nat.reduceAdd, vcells, vcut, cutSK, cutVK, cutNK, fillV, spl, Nat.reduceLeDiff, V.isNil, bne_self_eq_false], by simp -implicitDefEqProofs only [f3, wset, tailW, tailEnd, isLenV, isOneV, vop, vbin, vbinI, vun, ↓reduceIte, Nat.reduceEqDiff, Nat.reduceAdd, vcells, vcut, cutSK, cutVK, cutNK, fillV, spl, Nat.reduceLeDiff, V.isNil, bne_self_eq_false], by simp -implicitDefEqProofs only [f18, wset, tailW, tailEnd, isLenV, isOneV, vop, vbin, vbinI, vun, ↓reduceIte, Nat.reduceEqDiff, Nat.reduceAdd, vcells, vcut, cutSK, cutVK, cutNK, fillV, spl, Nat.reduceLeDiff, V.isNil, bne_self_eq_false], by simp -implicitDefEqProofs only [f19, wset, tailW, tailEnd, isLenV, isOneV, vop, vbin, vbinI, vun, ↓reduceIte, Nat.reduceEqDiff, Nat.reduceAdd, vcells, vcut, cutSK, cutVK, cutNK, fillV, spl, Nat.reduceLeDiff, V.isNil, bne_self_eq_false], by simp -implicitDefEqProofs only [wset, tailW, tailEnd, isLenV, isOneV, vop, vbin, vbinI, vun, ↓reduceIte, Nat.reduceEqDiff, Nat.reduceAdd, vcells, vcut, cutSK, cutVK, cutNK, fillV, spl, Nat.reduceLeDiff, V.isNil, bne_self_eq_false]; rfl, ?_⟩
      rw [htk, encL_snoc]
      rfl
    have hj2 : j = is.length := by simp at h2; omega
    rw [List.take_of_length_le (by simp; omega)]
    have hLc : cleanL σ.toks.length (encL (is.map stripJ)) = encL (is.map stripJ) := encL_clean _ _
    have hLg := grow_clean (T := σ.toks.length) (Nat.le_refl _) hLc
    generalize hI1 : grow σ.toks.length (encL (is.map stripJ)) = I1 at *
    have hT1 : σ.toks.length ≤ (σ.toks ++ tkl (encL (is.map stripJ))).length := by simp
    have hU1 : (σ.tts ++ ttl 25 (encL (is.map stripJ))).length = (σ.toks ++ tkl (encL (is.map stripJ))).length := by
      simp only [List.length_append, hw.2, ttl, tkl]
      cases (encL (is.map stripJ)).isEmpty <;> rfl
    generalize hT : tkl (encL (is.map stripJ)) = T1 at *
    generalize hU : ttl 25 (encL (is.map stripJ)) = U1 at *
    have gS : ∀ nn xs, (V.slc nn xs .no) = slcE nm (encMs ms) → True := fun _ _ _ => trivial
    simp -implicitDefEqProofs only [f1, f2, f3, List.append_assoc, getL, getL0, setL, setL0, List.set_cons_zero, List.set_cons_succ, slcE, encMs_len, wset, tailW, tailEnd, isLenV, isOneV, vop, vbin, vbinI, vun, ↓reduceIte, Nat.reduceEqDiff, Nat.reduceAdd, vcells, vcut, cutSK, cutVK, cutNK, fillV, spl, Nat.reduceLeDiff, V.isNil, bne_self_eq_false]
    refine LoopP.intro (fun n' fr σ' => ∃ (j : Nat) (X : List (List V)) (Y : List TypeId), j ≤ ms.length ∧ n' = ms.length - j ∧ fr 1 = .ref (some (σ.objs.length, 0)) ∧ fr 2 = .ref (some (σ.objs.length + 1, 0)) ∧ fr 3 = .ref (some (σ.objs.length + 2, 0)) ∧
        fr 33 = .slc (nm || !(encMs ms).isEmpty) (encMs ms) .no ∧ fr 34 = .int .i64 (ms.length : Int) ∧ fr 35 = .int .i64 (j : Int) ∧
        σ' = ⟨σ.objs ++ ([.int .i64 k, .bool b, .int .i64 n, .str s, slcE ni (encL is), slcE nm (encMs ms), .int .i64 a] :: zero7 :: [.int .i64 k, .bool b, .int .i64 n, .str s, I1, grow (σ.toks ++ T1).length (encMs ((ms.map stripMm).take j)), .int .i64 0] :: X), σ.maps,
          (σ.toks ++ T1) ++ tkl (encMs ((ms.map stripMm).take j)), σ.tys ++ Y, (σ.tts ++ U1) ++ ttl 45 (encMs ((ms.map stripMm).take j))⟩) ms.length ?_ ?_
    · exact ⟨0, X, Y, by omega, by omega, by simp -implicitDefEqProofs only [f1, wset, tailW, tailEnd, isLenV, isOneV, vop, vbin, vbinI, vun, ↓reduceIte, Nat.reduceEqDiff, Nat.reduceAdd, vcells, vcut, cutSK, cutVK, cutNK, fillV, spl, Nat.reduceLeDiff, V.isNil, bne_self_eq_false], by simp -implicitDefEqProofs only [f2, wset, tailW, tailEnd, isLenV, isOneV, vop, vbin, vbinI, vun, ↓reduceIte, Nat.reduceEqDiff, Nat.reduceAdd, vcells, vcut, cutSK, cutVK, cutNK, fillV, spl, Nat.reduceLeDiff, V.isNil, bne_self_eq_false], by simp -implicitDefEqProofs only [f3, wset, tailW, tailEnd, isLenV, isOneV, vop, vbin, vbinI, vun, ↓reduceIte, Nat.reduceEqDiff, Nat.reduceAdd, vcells, vcut, cutSK, cutVK, cutNK, fillV, spl, Nat.reduceLeDiff, V.isNil, bne_self_eq_false], by simp -implicitDefEqProofs only [wset, tailW, tailEnd, isLenV, isOneV, vop, vbin, vbinI, vun, ↓reduceIte, Nat.reduceEqDiff, Nat.reduceAdd, vcells, vcut, cutSK, cutVK, cutNK, fillV, spl, Nat.reduceLeDiff, V.isNil, bne_self_eq_false], by simp -implicitDefEqProofs only [wset, tailW, tailEnd, isLenV, isOneV, vop, vbin, vbinI, vun, ↓reduceIte, Nat.reduceEqDiff, Nat.reduceAdd, vcells, vcut, cutSK, cutVK, cutNK, fillV, spl, Nat.reduceLeDiff, V.isNil, bne_self_eq_false], by simp -implicitDefEqProofs only [Int.natCast_zero, wset, tailW, tailEnd, isLenV, isOneV, vop, vbin, vbinI, vun, ↓reduceIte, Nat.reduceEqDiff, Nat.reduceAdd, vcells, vcut, cutSK, cutVK, cutNK, fillV, spl, Nat.reduceLeDiff, V.isNil, bne_self_eq_false], by simp [grow, tkl, ttl, encMs, slcE]⟩
    clear hj2 h2 hj f1 f2 f3 f18 f19 f20
    rintro n' fr σ' ⟨j, X, Y, hj, rfl, f1, f2, f3, f18, f19, f20, rfl⟩
    simp -implicitDefEqProofs only [f1, f2, f3, f18, f19, f20, wset, tailW, tailEnd, isLenV, isOneV, vop, vbin, vbinI, vun, ↓reduceIte, Nat.reduceEqDiff, Nat.reduceAdd, vcells, vcut, cutSK, cutVK, cutNK, fillV, spl, Nat.reduceLeDiff, V.isNil, bne_self_eq_false]
    refine chooseK_split (fun h2 => ?_) (fun h2 => ?_) <;> simp -implicitDefEqProofs only [h2, f1, f2, f3, f18, f19, f20, encMs_len, wset, tailW, tailEnd, isLenV, isOneV, vop, vbin, vbinI, vun, ↓reduceIte, Nat.reduceEqDiff, Nat.reduceAdd, vcells, vcut, cutSK, cutVK, cutNK, fillV, spl, Nat.reduceLeDiff, V.isNil, bne_self_eq_false]
    · have hjl : j < ms.length := by simp at h2; omega
      refine ⟨by omega, encMs_cells ms, ?_⟩
      rw [encMs_get ms j hjl, show ms.getD j (.mk [] (jv 0 false 0 [] [] [] 0) 0) = ms.getD j jmnull from rfl]
      have hm := getD_mem (d := jmnull) hjl
      have hwt := wtM_mem hm
      have htk := take_snoc (l := ms.map stripMm) (stripMm jmnull) (j := j) (by simpa using hjl)
      have hg0 : (ms.map stripMm).getD j (stripMm jmnull) = stripMm (ms.getD j jmnull) := by simp [List.getD_eq_getElem?_getD, List.getElem?_eq_getElem hjl]
      rw [hg0] at htk
      have hjL : ((ms.map stripMm).take j).length = j := by simp; omega
      generalize (ms.map stripMm).take j = st at *
      generalize hv0 : ms.getD j jmnull = m0 at *
      obtain ⟨kk, v0, aa⟩ := m0
      rw [JM.wt] at hwt
      rw [stripMm] at htk
      simp -implicitDefEqProofs only [JM.enc, JM.cells, JV.len, take7a, take8a, List.append_assoc, getL, getL0, setL, setL0, List.set_cons_zero, List.set_cons_succ, f3, wset, tailW, tailEnd, isLenV, isOneV, vop, vbin, vbinI, vun, ↓reduceIte, Nat.reduceEqDiff, Nat.reduceAdd, vcells, vcut, cutSK, cutVK, cutNK, fillV, spl, Nat.reduceLeDiff, V.isNil, bne_self_eq_false]
      refine ih v0 (by omega) (by unfold big; omega) _ _ ?_
      simp -implicitDefEqProofs only [f1, f2, f3, f18, f19, f20, List.append_assoc, getL, getL0, setL, setL0, List.set_cons_zero, List.set_cons_succ, JV.enc, JV.len, wset, tailW, tailEnd, isLenV, isOneV, vop, vbin, vbinI, vun, ↓reduceIte, Nat.reduceEqDiff, Nat.reduceAdd, vcells, vcut, cutSK, cutVK, cutNK, fillV, spl, Nat.reduceLeDiff, V.isNil, bne_self_eq_false]
      refine ⟨fun x hx => by rw [List.mem_singleton.1 hx]; exact ⟨JM.len (.mk kk (stripJ v0) 0), rfl⟩, ?_⟩
      have eT : σ.toks.length + T1.length = (σ.toks ++ T1).length := by simp
      rw [eT]
      refine vapp_grow (T0 := σ.toks ++ T1) (U0 := σ.tts ++ U1) (encMs_cells st) (JM.len (.mk kk (stripJ v0) 0)) rfl (by rw [encMs_len]; unfold big; omega) (by simp) (by simp) hU1 ?_
      simp -implicitDefEqProofs only [f1, f2, f3, f18, f19, f20, List.append_assoc, getL, getL0, setL, setL0, List.set_cons_zero, List.set_cons_succ, grow_cells, grow_notTup, wset, tailW, tailEnd, isLenV, isOneV, vop, vbin, vbinI, vun, ↓reduceIte, Nat.reduceEqDiff, Nat.reduceAdd, vcells, vcut, cutSK, cutVK, cutNK, fillV, spl, Nat.reduceLeDiff, V.isNil, bne_self_eq_false]
      rw [wrap64 (by omega)]
      refine ⟨ms.length - (j + 1), by omega, j + 1, X ++ [V.str kk :: (v0.cells ++ [V.int IntKind.i64 aa])], Y ++ [45], by omega, rfl, by simp -implicitDefEqProofs only [f1, wset, tailW, tailEnd, isLenV, isOneV, vop, vbin, vbinI, vun, ↓reduceIte, Nat.reduceEqDiff, Nat.reduceAdd, vcells, vcut, cutSK, cutVK, cutNK, fillV, spl, Nat.reduceLeDiff, V.isNil, bne_self_eq_false], by simp -implicitDefEqProofs only [f2, wset, tailW, tailEnd, isLenV, isOneV, vop, vbin, vbinI, vun, ↓reduceIte, Nat.reduceEqDiff, Nat.reduceAdd, vcells, vcut, cutSK, cutVK, cutNK, fillV, spl, Nat.reduceLeDiff, V.isNil, bne_self_eq_false], by simp -implicitDefEqProofs only [f3, wset, tailW, tailEnd, isLenV, isOneV, vop, vbin, vbinI, vun, ↓reduceIte, Nat.reduceEqDiff, Nat.reduceAdd, vcells, vcut, cutSK, cutVK, cutNK, fillV, spl, Nat.reduceLeDiff, V.isNil, bne_self_eq_false], by simp -implicitDefEqProofs only [f18, wset, tailW, tailEnd, isLenV, isOneV, vop, vbin, vbinI, vun, ↓reduceIte, Nat.reduceEqDiff, Nat.reduceAdd, vcells, vcut, cutSK, cutVK, cutNK, fillV, spl, Nat.reduceLeDiff, V.isNil, bne_self_eq_false], by simp -implicitDefEqProofs only [f19, wset, tailW, tailEnd, isLenV, isOneV, vop, vbin, vbinI, vun, ↓reduceIte, Nat.reduceEqDiff, Nat.reduceAdd, vcells, vcut, cutSK, cutVK, cutNK, fillV, spl, Nat.reduceLeDiff, V.isNil, bne_self_eq_false], by simp -implicitDefEqProofs only [wset, tailW, tailEnd, isLenV, isOneV, vop, vbin, vbinI, vun, ↓reduceIte, Nat.reduceEqDiff, Nat.reduceAdd, vcells, vcut, cutSK, cutVK, cutNK, fillV, spl, Nat.reduceLeDiff, V.isNil, bne_self_eq_false]; rfl, ?_⟩
      rw [htk, encMs_snoc]
      simp [JM.cells]
    · have hj2 : j = ms.length := by simp at h2; omega
      rw [List.take_of_length_le (by simp; omega)]
      have hMc : cleanL σ.toks.length (encMs (ms.map stripMm)) = encMs (ms.map stripMm) := encMs_clean _ _
      have hMg := grow_clean (T := σ.toks.length + T1.length) (show σ.toks.length ≤ _ by omega) hMc
      generalize hI2 : grow (σ.toks.length + T1.length) (encMs (ms.map stripMm)) = I2 at *
      simp -implicitDefEqProofs only [f1, f2, f3, List.append_assoc, getL, getL0, setL, setL0, List.set_cons_zero, List.set_cons_succ, zero7, wset, tailW, tailEnd, isLenV, isOneV, vop, vbin, vbinI, vun, ↓reduceIte, Nat.reduceEqDiff, Nat.reduceAdd, vcells, vcut, cutSK, cutVK, cutNK, fillV, spl, Nat.reduceLeDiff, V.isNil, bne_self_eq_false]
      refine exitNewT (out' := .ret (JV.mk k b n s false (is.map stripJ) false (ms.map stripMm) 0).enc) hw ?_ ?_ h
      · simp [Out.clean, V.clean, cleanL, hLg, hMg, JV.enc, JV.cells]
      · simp [Out.fits, V.fits, JV.fits, JV.enc]
end Go.Proofs.YtgdcdkgmeomhpaaDoor

namespace Go.Proofs.YtgdcdkgmeomhpaaDoor
open Go Go.Vs
set_option maxRecDepth 20000
attribute [local irreducible] chooseK

theorem refGet_C {v : JV} {key : List UInt8} {σ : St} {Q : Out → St → Prop} (hl : v.mems.length ≤ big) (h : Q (.ret (getV v key)) σ) : C Xc 9 [v.enc, .str key] σ Q := by
  obtain ⟨k, b, n, s, ni, is, nm, ms, a⟩ := v
  unfold big at hl
  simp only [JV.mems] at hl
  have gs : getS (.mk k b n s ni is nm ms a) key = if k = 5 then (ms.find? fun m => m.keyOf == key).map JM.val else none := rfl
  refine bodyW cf_refGet (Eq.refl true) fun hw => ?_
  simp -implicitDefEqProofs only [vf_refGet, JV.enc, JV.cells, slcE, List.append_assoc, getL, getL0, setL, setL0, List.set_cons_zero, List.set_cons_succ, wset, tailW, tailEnd, isLenV, isOneV, vop, vbin, vbinI, vun, ↓reduceIte, Nat.reduceEqDiff, Nat.reduceAdd, vcells, vcut, cutSK, cutVK, cutNK, fillV, spl, Nat.reduceLeDiff, V.isNil, bne_self_eq_false]
  refine LoopP.intro (fun n' fr σ' => ∃ (j : Nat), j ≤ ms.length ∧ n' = ms.length - j ∧ (∀ i, i < j → ((ms.getD i jmnull).keyOf == key) = false) ∧ fr 1 = .str key ∧ fr 2 = .ref (some (σ.objs.length, 0)) ∧ fr 4 = .ref (some (σ.objs.length + 1, 0)) ∧
      fr 6 = .int .i64 (j : Int) ∧ σ' = ⟨σ.objs ++ [[.int .i64 k, .bool b, .int .i64 n, .str s, .slc (ni || !(encL is).isEmpty) (encL is) .no, .slc (nm || !(encMs ms).isEmpty) (encMs ms) .no, .int .i64 a], zero7], σ.maps, σ.toks, σ.tys ++ [25, 25], σ.tts⟩) ms.length ?_ ?_
  · exact ⟨0, by omega, by omega, fun i hi => by omega, by simp -implicitDefEqProofs only [wset, tailW, tailEnd, isLenV, isOneV, vop, vbin, vbinI, vun, ↓reduceIte, Nat.reduceEqDiff, Nat.reduceAdd, vcells, vcut, cutSK, cutVK, cutNK, fillV, spl, Nat.reduceLeDiff, V.isNil, bne_self_eq_false], by simp -implicitDefEqProofs only [wset, tailW, tailEnd, isLenV, isOneV, vop, vbin, vbinI, vun, ↓reduceIte, Nat.reduceEqDiff, Nat.reduceAdd, vcells, vcut, cutSK, cutVK, cutNK, fillV, spl, Nat.reduceLeDiff, V.isNil, bne_self_eq_false], by simp -implicitDefEqProofs only [wset, tailW, tailEnd, isLenV, isOneV, vop, vbin, vbinI, vun, ↓reduceIte, Nat.reduceEqDiff, Nat.reduceAdd, vcells, vcut, cutSK, cutVK, cutNK, fillV, spl, Nat.reduceLeDiff, V.isNil, bne_self_eq_false], by simp -implicitDefEqProofs only [Int.natCast_zero, wset, tailW, tailEnd, isLenV, isOneV, vop, vbin, vbinI, vun, ↓reduceIte, Nat.reduceEqDiff, Nat.reduceAdd, vcells, vcut, cutSK, cutVK, cutNK, fillV, spl, Nat.reduceLeDiff, V.isNil, bne_self_eq_false], rfl⟩
  rintro n' fr σ' ⟨j, hj, rfl, hno, f1, f2, f4, f6, rfl⟩
  simp -implicitDefEqProofs only [f1, f2, f4, f6, List.append_assoc, getL, getL0, setL, setL0, List.set_cons_zero, List.set_cons_succ, encMs_len, wset, tailW, tailEnd, isLenV, isOneV, vop, vbin, vbinI, vun, ↓reduceIte, Nat.reduceEqDiff, Nat.reduceAdd, vcells, vcut, cutSK, cutVK, cutNK, fillV, spl, Nat.reduceLeDiff, V.isNil, bne_self_eq_false]
  refine chooseK_split (fun h1 => ?_) (fun h1 => ?_) <;> simp -implicitDefEqProofs only [h1, f1, f2, f4, f6, List.append_assoc, getL, getL0, setL, setL0, List.set_cons_zero, List.set_cons_succ, encMs_len, wset, tailW, tailEnd, isLenV, isOneV, vop, vbin, vbinI, vun, ↓reduceIte, Nat.reduceEqDiff, Nat.reduceAdd, vcells, vcut, cutSK, cutVK, cutNK, fillV, spl, Nat.reduceLeDiff, V.isNil, bne_self_eq_false]
  · have hjl : j < ms.length := by simp at h1; omega
    refine chooseK_split (fun h2 => ?_) (fun h2 => ?_) <;> simp -implicitDefEqProofs only [h2, f1, f2, f4, f6, List.append_assoc, getL, getL0, setL, setL0, List.set_cons_zero, List.set_cons_succ, encMs_len, wset, tailW, tailEnd, isLenV, isOneV, vop, vbin, vbinI, vun, ↓reduceIte, Nat.reduceEqDiff, Nat.reduceAdd, vcells, vcut, cutSK, cutVK, cutNK, fillV, spl, Nat.reduceLeDiff, V.isNil, bne_self_eq_false]
    · have hk : k = 5 := by simpa using h2
      rw [if_pos hk] at gs
      have hgj := encMs_get ms j hjl
      rw [show ms.getD j (.mk [] (jv 0 false 0 [] [] [] 0) 0) = ms.getD j jmnull from rfl] at hgj
      refine ⟨by omega, encMs_cells ms, ?_⟩
      rw [hgj]
      generalize hmj : ms.getD j jmnull = mj at hgj
      obtain ⟨kk, vv, aa⟩ := mj
      rw [JM.enc, JM.cells] at hgj
      simp -implicitDefEqProofs only [JM.enc, JM.cells, JV.len, f1, f2, f4, f6, List.append_assoc, getL, getL0, setL, setL0, List.set_cons_zero, List.set_cons_succ, encMs_len, wset, tailW, tailEnd, isLenV, isOneV, vop, vbin, vbinI, vun, ↓reduceIte, Nat.reduceEqDiff, Nat.reduceAdd, vcells, vcut, cutSK, cutVK, cutNK, fillV, spl, Nat.reduceLeDiff, V.isNil, bne_self_eq_false]
      refine chooseK_split (fun h3 => ?_) (fun h3 => ?_) <;> simp -implicitDefEqProofs only [h3, f1, f2, f4, f6, List.append_assoc, getL, getL0, setL, setL0, List.set_cons_zero, List.set_cons_succ, encMs_len, hgj, zero7, take7a, JV.len, wset, tailW, tailEnd, isLenV, isOneV, vop, vbin, vbinI, vun, ↓reduceIte, Nat.reduceEqDiff, Nat.reduceAdd, vcells, vcut, cutSK, cutVK, cutNK, fillV, spl, Nat.reduceLeDiff, V.isNil, bne_self_eq_false]
      · have hf := find_at (p := fun m : JM => m.keyOf == key) hjl hno (by rw [hmj]; exact h3)
        rw [hmj] at hf
        rw [hf] at gs
        rw [getV_some gs, JM.val, JV.enc] at h
        rw [take7]
        exact ⟨by omega, encMs_cells ms, exitNew hw (by simp [Out.clean, V.clean, cleanL, JV.clean]) (by simp [Out.fits, V.fits, fitsL, JV.fits]) h⟩
      · rw [wrap64 (by omega)]
        refine ⟨ms.length - (j + 1), by omega, j + 1, by omega, rfl, fun i hi => ?_, by simp -implicitDefEqProofs only [f1, wset, tailW, tailEnd, isLenV, isOneV, vop, vbin, vbinI, vun, ↓reduceIte, Nat.reduceEqDiff, Nat.reduceAdd, vcells, vcut, cutSK, cutVK, cutNK, fillV, spl, Nat.reduceLeDiff, V.isNil, bne_self_eq_false], by simp -implicitDefEqProofs only [f2, wset, tailW, tailEnd, isLenV, isOneV, vop, vbin, vbinI, vun, ↓reduceIte, Nat.reduceEqDiff, Nat.reduceAdd, vcells, vcut, cutSK, cutVK, cutNK, fillV, spl, Nat.reduceLeDiff, V.isNil, bne_self_eq_false], by simp -implicitDefEqProofs only [f4, wset, tailW, tailEnd, isLenV, isOneV, vop, vbin, vbinI, vun, ↓reduceIte, Nat.reduceEqDiff, Nat.reduceAdd, vcells, vcut, cutSK, cutVK, cutNK, fillV, spl, Nat.reduceLeDiff, V.isNil, bne_self_eq_false], by simp -implicitDefEqProofs only [wset, tailW, tailEnd, isLenV, isOneV, vop, vbin, vbinI, vun, ↓reduceIte, Nat.reduceEqDiff, Nat.reduceAdd, vcells, vcut, cutSK, cutVK, cutNK, fillV, spl, Nat.reduceLeDiff, V.isNil, bne_self_eq_false]; rfl, rfl⟩
        by_cases e : i = j
        · subst e; rw [hmj]; exact h3
        · exact hno i (by omega)
    · have hk : ¬ k = 5 := by simpa using h2
      rw [if_neg hk] at gs
      rw [getV_none gs] at h
      simp -implicitDefEqProofs only [zero7, wset, tailW, tailEnd, isLenV, isOneV, vop, vbin, vbinI, vun, ↓reduceIte, Nat.reduceEqDiff, Nat.reduceAdd, vcells, vcut, cutSK, cutVK, cutNK, fillV, spl, Nat.reduceLeDiff, V.isNil, bne_self_eq_false]
      exact exitNew hw (by rfl) (by rfl) h
  · have hj2 : j = ms.length := by simp at h1; omega
    have gn : getS (.mk k b n s ni is nm ms a) key = none := by
      rw [gs, find_no (fun i hi => hno i (by omega))]
      split <;> rfl
    rw [getV_none gn] at h
    simp -implicitDefEqProofs only [zero7, wset, tailW, tailEnd, isLenV, isOneV, vop, vbin, vbinI, vun, ↓reduceIte, Nat.reduceEqDiff, Nat.reduceAdd, vcells, vcut, cutSK, cutVK, cutNK, fillV, spl, Nat.reduceLeDiff, V.isNil, bne_self_eq_false]
    exact exitNew hw (by rfl) (by rfl) h

theorem refDepth_C : ∀ (N : Nat) (v : JV), v.wt ≤ N → v.wt ≤ big → ∀ (σ : St) (Q : Out → St → Prop), Q (.ret (.int .i64 (v.depth : Int))) σ → C Xc 13 [v.enc] σ Q := by
  intro N
  induction N with
  | zero => intro v hv; have := v.wt_pos; omega
  | succ N ih =>
    intro v hv hb σ Q h
    obtain ⟨k, b, n, s, ni, is, nm, ms, a⟩ := v
    unfold big at hb
    rw [JV.wt] at hv hb
    have hwL := wtL_len is
    have hwM := wtM_len ms
    have hdL := depthL_wt is
    have hdM := depthM_wt ms
    rw [JV.depth] at h
    have e44 : ((4 : Int) == 4) = true := rfl
    have e45 : ((4 : Int) == 5) = false := rfl
    have e54 : ((5 : Int) == 4) = false := rfl
    have e55 : ((5 : Int) == 5) = true := rfl
    refine bodyW cf_refDepth (Eq.refl true) fun hw => ?_
    simp -implicitDefEqProofs only [vf_refDepth, JV.enc, JV.len, List.append_assoc, getL, getL0, setL, setL0, List.set_cons_zero, List.set_cons_succ, wset, tailW, tailEnd, isLenV, isOneV, vop, vbin, vbinI, vun, ↓reduceIte, Nat.reduceEqDiff, Nat.reduceAdd, vcells, vcut, cutSK, cutVK, cutNK, fillV, spl, Nat.reduceLeDiff, V.isNil, bne_self_eq_false]
    by_cases h4 : k = 4
    · subst h4
      rw [if_pos rfl] at h
      have e4 : True := trivial
      have e5 : True := trivial
      refine LoopP.intro (fun n' fr σ' => ∃ (j : Nat), j ≤ is.length ∧ n' = is.length - j ∧ fr 1 = .ref (some (σ.objs.length, 0)) ∧ fr 3 = .int .i64 (depthL (is.take j) : Int) ∧ fr 4 = .int .i64 (j : Int) ∧
          σ' = ⟨σ.objs ++ [(JV.mk 4 b n s ni is nm ms a).cells], σ.maps, σ.toks, σ.tys ++ [25], σ.tts⟩) is.length ?_ ?_
      · exact ⟨0, by omega, by omega, rfl, rfl, rfl, rfl⟩
      rintro n' fr σ' ⟨j, hj, rfl, f1, f3, f4, rfl⟩
      simp -implicitDefEqProofs only [f1, f3, f4, List.append_assoc, getL, getL0, setL, setL0, List.set_cons_zero, List.set_cons_succ, encL_len, JV.cells, slcE, e44, wset, tailW, tailEnd, isLenV, isOneV, vop, vbin, vbinI, vun, ↓reduceIte, Nat.reduceEqDiff, Nat.reduceAdd, vcells, vcut, cutSK, cutVK, cutNK, fillV, spl, Nat.reduceLeDiff, V.isNil, bne_self_eq_false]
      refine chooseK_split (fun h1 => ?_) (fun h1 => ?_) <;> simp -implicitDefEqProofs only [h1, f1, f3, f4, List.append_assoc, getL, getL0, setL, setL0, List.set_cons_zero, List.set_cons_succ, encL_len, e44, wset, tailW, tailEnd, isLenV, isOneV, vop, vbin, vbinI, vun, ↓reduceIte, Nat.reduceEqDiff, Nat.reduceAdd, vcells, vcut, cutSK, cutVK, cutNK, fillV, spl, Nat.reduceLeDiff, V.isNil, bne_self_eq_false]
      · have hjl : j < is.length := by simp at h1; omega
        have hgj := encL_get is j hjl
        have hm := getD_mem (d := jnull) hjl
        have hwt := wtL_mem hm
        have hdt := depthL_take is j hjl
        refine ⟨by omega, encL_cells is, ?_⟩
        rw [hgj]
        generalize hv0 : is.getD j jnull = v0 at *
        simp -implicitDefEqProofs only [JV.enc, JV.len, take7, List.append_assoc, getL, getL0, setL, setL0, List.set_cons_zero, List.set_cons_succ, f1, f3, f4, wset, tailW, tailEnd, isLenV, isOneV, vop, vbin, vbinI, vun, ↓reduceIte, Nat.reduceEqDiff, Nat.reduceAdd, vcells, vcut, cutSK, cutVK, cutNK, fillV, spl, Nat.reduceLeDiff, V.isNil, bne_self_eq_false]
        refine ih v0 (by omega) (by unfold big; omega) _ _ ?_
        simp -implicitDefEqProofs only [f1, f3, f4, vmax2_nat, wset, tailW, tailEnd, isLenV, isOneV, vop, vbin, vbinI, vun, ↓reduceIte, Nat.reduceEqDiff, Nat.reduceAdd, vcells, vcut, cutSK, cutVK, cutNK, fillV, spl, Nat.reduceLeDiff, V.isNil, bne_self_eq_false]
        rw [wrap64 (by omega), ← hdt]
        exact ⟨is.length - (j + 1), by omega, j + 1, by omega, rfl, f1, rfl, rfl, rfl⟩
      · have hj2 : j = is.length := by simp at h1; omega
        subst hj2
        rw [List.take_length] at f3
        refine LoopP.intro (fun _ fr σ' => fr 1 = .ref (some (σ.objs.length, 0)) ∧ fr 3 = .int .i64 ((depthL is : Nat) : Int) ∧ fr 5 = .int .i64 0 ∧ σ' = ⟨σ.objs ++ [(JV.mk 4 b n s ni is nm ms a).cells], σ.maps, σ.toks, σ.tys ++ [25], σ.tts⟩) 0 ⟨f1, f3, rfl, rfl⟩ ?_
        rintro n' fr σ' ⟨f1, f3, f4, rfl⟩
        simp -implicitDefEqProofs only [f1, f3, f4, List.append_assoc, getL, getL0, setL, setL0, List.set_cons_zero, List.set_cons_succ, encL_len, encMs_len, JV.cells, slcE, wset, tailW, tailEnd, isLenV, isOneV, vop, vbin, vbinI, vun, ↓reduceIte, Nat.reduceEqDiff, Nat.reduceAdd, vcells, vcut, cutSK, cutVK, cutNK, fillV, spl, Nat.reduceLeDiff, V.isNil, bne_self_eq_false]
        refine chooseK_split (fun g1 => ?_) (fun g1 => ?_) <;> simp -implicitDefEqProofs only [g1, f1, f3, f4, List.append_assoc, getL, getL0, setL, setL0, List.set_cons_zero, List.set_cons_succ, encL_len, encMs_len, e44, e45, e54, e55, e4, e5, wset, tailW, tailEnd, isLenV, isOneV, vop, vbin, vbinI, vun, ↓reduceIte, Nat.reduceEqDiff, Nat.reduceAdd, vcells, vcut, cutSK, cutVK, cutNK, fillV, spl, Nat.reduceLeDiff, V.isNil, bne_self_eq_false]
        · rw [wrap64 (by omega)]
          exact exitNew hw (by rfl) (by rfl) h
        · rw [wrap64 (by omega)]
          exact exitNew hw (by rfl) (by rfl) h
    rw [if_neg h4] at h
    have e4 : (k == 4) = false := by simpa using h4
    by_cases h5 : k = 5
    · subst h5
      rw [if_pos rfl] at h
      have e5 : True := trivial
      refine LoopP.intro (fun _ fr σ' => fr 1 = .ref (some (σ.objs.length, 0)) ∧ fr 3 = .int .i64 ((0 : Nat) : Int) ∧ fr 4 = .int .i64 0 ∧ σ' = ⟨σ.objs ++ [(JV.mk 5 b n s ni is nm ms a).cells], σ.maps, σ.toks, σ.tys ++ [25], σ.tts⟩) 0 ⟨rfl, rfl, rfl, rfl⟩ ?_
      rintro n' fr σ' ⟨f1, f3, f4, rfl⟩
      simp -implicitDefEqProofs only [f1, f3, f4, List.append_assoc, getL, getL0, setL, setL0, List.set_cons_zero, List.set_cons_succ, encL_len, encMs_len, JV.cells, slcE, wset, tailW, tailEnd, isLenV, isOneV, vop, vbin, vbinI, vun, ↓reduceIte, Nat.reduceEqDiff, Nat.reduceAdd, vcells, vcut, cutSK, cutVK, cutNK, fillV, spl, Nat.reduceLeDiff, V.isNil, bne_self_eq_false]
      refine chooseK_split (fun h1 => ?_) (fun h1 => ?_) <;> simp -implicitDefEqProofs only [h1, f1, f3, f4, List.append_assoc, getL, getL0, setL, setL0, List.set_cons_zero, List.set_cons_succ, encL_len, e54, wset, tailW, tailEnd, isLenV, isOneV, vop, vbin, vbinI, vun, ↓reduceIte, Nat.reduceEqDiff, Nat.reduceAdd, vcells, vcut, cutSK, cutVK, cutNK, fillV, spl, Nat.reduceLeDiff, V.isNil, bne_self_eq_false]
      all_goals
        refine LoopP.intro (fun n' fr σ' => ∃ (j : Nat), j ≤ ms.length ∧ n' = ms.length - j ∧ fr 1 = .ref (some (σ.objs.length, 0)) ∧ fr 3 = .int .i64 (depthM (ms.take j) : Int) ∧ fr 5 = .int .i64 (j : Int) ∧
            σ' = ⟨σ.objs ++ [(JV.mk 5 b n s ni is nm ms a).cells], σ.maps, σ.toks, σ.tys ++ [25], σ.tts⟩) ms.length ?_ ?_
        · exact ⟨0, by omega, by omega, f1, f3, rfl, rfl⟩
        rintro n' fr σ' ⟨j, hj, rfl, f1, f3, f4, rfl⟩
        simp -implicitDefEqProofs only [f1, f3, f4, List.append_assoc, getL, getL0, setL, setL0, List.set_cons_zero, List.set_cons_succ, encMs_len, JV.cells, slcE, e55, wset, tailW, tailEnd, isLenV, isOneV, vop, vbin, vbinI, vun, ↓reduceIte, Nat.reduceEqDiff, Nat.reduceAdd, vcells, vcut, cutSK, cutVK, cutNK, fillV, spl, Nat.reduceLeDiff, V.isNil, bne_self_eq_false]
        refine chooseK_split (fun h1 => ?_) (fun h1 => ?_) <;> simp -implicitDefEqProofs only [h1, f1, f3, f4, List.append_assoc, getL, getL0, setL, setL0, List.set_cons_zero, List.set_cons_succ, encMs_len, e55, wset, tailW, tailEnd, isLenV, isOneV, vop, vbin, vbinI, vun, ↓reduceIte, Nat.reduceEqDiff, Nat.reduceAdd, vcells, vcut, cutSK, cutVK, cutNK, fillV, spl, Nat.reduceLeDiff, V.isNil, bne_self_eq_false]
        · have hjl : j < ms.length := by simp at h1; omega
          have hgj := encMs_get ms j hjl
          have hm := getD_mem (d := jmnull) hjl
          have hwt := wtM_mem hm
          have hdt := depthM_take ms j hjl
          refine ⟨by omega, encMs_cells ms, ?_⟩
          rw [hgj, show ms.getD j (.mk [] (jv 0 false 0 [] [] [] 0) 0) = ms.getD j jmnull from rfl]
          generalize hv0 : ms.getD j jmnull = m0 at *
          obtain ⟨kk, v0, aa⟩ := m0
          rw [JM.wt] at hwt
          rw [JM.depth] at hdt
          simp -implicitDefEqProofs only [JM.enc, JM.cells, JV.len, take7a, take8a, List.append_assoc, getL, getL0, setL, setL0, List.set_cons_zero, List.set_cons_succ, f1, f3, f4, wset, tailW, tailEnd, isLenV, isOneV, vop, vbin, vbinI, vun, ↓reduceIte, Nat.reduceEqDiff, Nat.reduceAdd, vcells, vcut, cutSK, cutVK, cutNK, fillV, spl, Nat.reduceLeDiff, V.isNil, bne_self_eq_false]
          refine ih v0 (by omega) (by unfold big; omega) _ _ ?_
          simp -implicitDefEqProofs only [f1, f3, f4, vmax2_nat, wset, tailW, tailEnd, isLenV, isOneV, vop, vbin, vbinI, vun, ↓reduceIte, Nat.reduceEqDiff, Nat.reduceAdd, vcells, vcut, cutSK, cutVK, cutNK, fillV, spl, Nat.reduceLeDiff, V.isNil, bne_self_eq_false]
          rw [wrap64 (by omega), ← hdt]
          exact ⟨ms.length - (j + 1), by omega, j + 1, by omega, rfl, f1, rfl, rfl, rfl⟩
        · have hj2 : j = ms.length := by simp at h1; omega
          subst hj2
          rw [List.take_length, wrap64 (by omega)]
          exact exitNew hw (by rfl) (by rfl) h
    · rw [if_neg h5] at h
      have e5 : (k == 5) = false := by simpa using h5
      refine LoopP.intro (fun _ fr σ' => fr 1 = .ref (some (σ.objs.length, 0)) ∧ fr 3 = .int .i64 ((0 : Nat) : Int) ∧ fr 4 = .int .i64 0 ∧ σ' = ⟨σ.objs ++ [(JV.mk k b n s ni is nm ms a).cells], σ.maps, σ.toks, σ.tys ++ [25], σ.tts⟩) 0 ⟨rfl, rfl, rfl, rfl⟩ ?_
      rintro n' fr σ' ⟨f1, f3, f4, rfl⟩
      simp -implicitDefEqProofs only [f1, f3, f4, List.append_assoc, getL, getL0, setL, setL0, List.set_cons_zero, List.set_cons_succ, encL_len, encMs_len, JV.cells, slcE, wset, tailW, tailEnd, isLenV, isOneV, vop, vbin, vbinI, vun, ↓reduceIte, Nat.reduceEqDiff, Nat.reduceAdd, vcells, vcut, cutSK, cutVK, cutNK, fillV, spl, Nat.reduceLeDiff, V.isNil, bne_self_eq_false]
      refine chooseK_split (fun h1 => ?_) (fun h1 => ?_) <;> simp -implicitDefEqProofs only [h1, f1, f3, f4, List.append_assoc, getL, getL0, setL, setL0, List.set_cons_zero, List.set_cons_succ, encL_len, e4, wset, tailW, tailEnd, isLenV, isOneV, vop, vbin, vbinI, vun, ↓reduceIte, Nat.reduceEqDiff, Nat.reduceAdd, vcells, vcut, cutSK, cutVK, cutNK, fillV, spl, Nat.reduceLeDiff, V.isNil, bne_self_eq_false]
      all_goals
        refine LoopP.intro (fun _ fr σ' => fr 1 = .ref (some (σ.objs.length, 0)) ∧ fr 3 = .int .i64 ((0 : Nat) : Int) ∧ fr 5 = .int .i64 0 ∧ σ' = ⟨σ.objs ++ [(JV.mk k b n s ni is nm ms a).cells], σ.maps, σ.toks, σ.tys ++ [25], σ.tts⟩) 0 ⟨f1, f3, rfl, rfl⟩ ?_
        rintro n' fr σ' ⟨f1, f3, f4, rfl⟩
        simp -implicitDefEqProofs only [f1, f3, f4, List.append_assoc, getL, getL0, setL, setL0, List.set_cons_zero, List.set_cons_succ, encL_len, encMs_len, JV.cells, slcE, wset, tailW, tailEnd, isLenV, isOneV, vop, vbin, vbinI, vun, ↓reduceIte, Nat.reduceEqDiff, Nat.reduceAdd, vcells, vcut, cutSK, cutVK, cutNK, fillV, spl, Nat.reduceLeDiff, V.isNil, bne_self_eq_false]
        refine chooseK_split (fun g1 => ?_) (fun g1 => ?_) <;> simp -implicitDefEqProofs only [g1, f1, f3, f4, List.append_assoc, getL, getL0, setL, setL0, List.set_cons_zero, List.set_cons_succ, encL_len, encMs_len, e44, e45, e54, e55, e4, e5, wset, tailW, tailEnd, isLenV, isOneV, vop, vbin, vbinI, vun, ↓reduceIte, Nat.reduceEqDiff, Nat.reduceAdd, vcells, vcut, cutSK, cutVK, cutNK, fillV, spl, Nat.reduceLeDiff, V.isNil, bne_self_eq_false]
        · rw [wrap64 (by omega)]
          exact exitNew hw (by rfl) (by rfl) h
        · rw [wrap64 (by omega)]
          exact exitNew hw (by rfl) (by rfl) h
end Go.Proofs.YtgdcdkgmeomhpaaDoor

namespace Go.Proofs.YtgdcdkgmeomhpaaDoor
open Go Go.Vs
set_option maxRecDepth 20000
attribute [local irreducible] chooseK

theorem drop7a (v : JV) (r : List V) : List.drop 7 (v.cells ++ r) = r := by rw [List.drop_append_of_le_length (by simp [JV.len]), drop7 (JV.len v)]; rfl
theorem eqJ_head (o : Bool) (k b n s ni is nm ms a k' b' n' s' ni' is' nm' ms' a') : eqJ o (.mk k b n s ni is nm ms a) (.mk k' b' n' s' ni' is' nm' ms' a') =
    ((k == k' && b == b' && n == n' && s == s' && (!o || a == a')) && (eqL o is is' && eqM o ms ms')) := by rw [eqJ]

theorem refEqual_C (o : Bool) : ∀ (N : Nat) (v w : JV), v.wt ≤ N → v.wt ≤ big → ∀ (σ : St) (Q : Out → St → Prop), Q (.ret (.bool (eqJ o v w))) σ → C Xc 11 [v.enc, w.enc, .bool o] σ Q := by
  intro N
  induction N with
  | zero => intro v w hv; have := v.wt_pos; omega
  | succ N ih =>
    intro v w hv hb σ Q h
    obtain ⟨k, b, n, s, ni, is, nm, ms, a⟩ := v
    obtain ⟨k', b', n', s', ni', is', nm', ms', a'⟩ := w
    unfold big at hb
    rw [JV.wt] at hv hb
    have hwL := wtL_len is
    have hwM := wtM_len ms
    rw [eqJ_head] at h
    have no : ((k == k' && b == b' && n == n' && s == s' && (!o || a == a')) && (eqL o is is' && eqM o ms ms')) = false → Q (.ret (.bool false)) σ := fun e => by rw [e] at h; exact h
    refine bodyW cf_refEqual (Eq.refl true) fun hw => ?_
    simp -implicitDefEqProofs only [vf_refEqual, JV.enc, JV.cells, slcE, List.append_assoc, getL, getL0, setL, setL0, List.set_cons_zero, List.set_cons_succ, encL_len, encMs_len, take7a, take8a, drop7a, JV.len, take7, take9, wset, tailW, tailEnd, isLenV, isOneV, vop, vbin, vbinI, vun, ↓reduceIte, Nat.reduceEqDiff, Nat.reduceAdd, vcells, vcut, cutSK, cutVK, cutNK, fillV, spl, Nat.reduceLeDiff, V.isNil, bne_self_eq_false]
    refine chooseK_split (fun h1 => ?_) (fun h1 => ?_) <;> simp -implicitDefEqProofs only [h1, List.append_assoc, getL, getL0, setL, setL0, List.set_cons_zero, List.set_cons_succ, encL_len, encMs_len, take7a, take8a, drop7a, JV.len, take7, take9, wset, tailW, tailEnd, isLenV, isOneV, vop, vbin, vbinI, vun, ↓reduceIte, Nat.reduceEqDiff, Nat.reduceAdd, vcells, vcut, cutSK, cutVK, cutNK, fillV, spl, Nat.reduceLeDiff, V.isNil, bne_self_eq_false]
    · exact exitNew hw (by rfl) (by rfl) (no (by simp_all))
    refine chooseK_split (fun h2 => ?_) (fun h2 => ?_) <;> simp -implicitDefEqProofs only [h2, List.append_assoc, getL, getL0, setL, setL0, List.set_cons_zero, List.set_cons_succ, encL_len, encMs_len, take7a, take8a, drop7a, JV.len, take7, take9, wset, tailW, tailEnd, isLenV, isOneV, vop, vbin, vbinI, vun, ↓reduceIte, Nat.reduceEqDiff, Nat.reduceAdd, vcells, vcut, cutSK, cutVK, cutNK, fillV, spl, Nat.reduceLeDiff, V.isNil, bne_self_eq_false]
    rotate_left
    · exact exitNew hw (by rfl) (by rfl) (no (by simp_all))
    refine chooseK_split (fun h3 => ?_) (fun h3 => ?_) <;> simp -implicitDefEqProofs only [h3, List.append_assoc, getL, getL0, setL, setL0, List.set_cons_zero, List.set_cons_succ, encL_len, encMs_len, take7a, take8a, drop7a, JV.len, take7, take9, wset, tailW, tailEnd, isLenV, isOneV, vop, vbin, vbinI, vun, ↓reduceIte, Nat.reduceEqDiff, Nat.reduceAdd, vcells, vcut, cutSK, cutVK, cutNK, fillV, spl, Nat.reduceLeDiff, V.isNil, bne_self_eq_false]
    · exact exitNew hw (by rfl) (by rfl) (no (by simp_all))
    refine chooseK_split (fun h4 => ?_) (fun h4 => ?_) <;> simp -implicitDefEqProofs only [h4, List.append_assoc, getL, getL0, setL, setL0, List.set_cons_zero, List.set_cons_succ, encL_len, encMs_len, take7a, take8a, drop7a, JV.len, take7, take9, wset, tailW, tailEnd, isLenV, isOneV, vop, vbin, vbinI, vun, ↓reduceIte, Nat.reduceEqDiff, Nat.reduceAdd, vcells, vcut, cutSK, cutVK, cutNK, fillV, spl, Nat.reduceLeDiff, V.isNil, bne_self_eq_false]
    rotate_left
    · exact exitNew hw (by rfl) (by rfl) (no (by simp_all))
    have h1' : k = k' := by simpa using h1
    have h3' : n = n' := by simpa using h3
    cases o with
    | false =>
      simp -implicitDefEqProofs only [List.append_assoc, getL, getL0, setL, setL0, List.set_cons_zero, List.set_cons_succ, encL_len, encMs_len, take7a, take8a, drop7a, JV.len, take7, take9, wset, tailW, tailEnd, isLenV, isOneV, vop, vbin, vbinI, vun, ↓reduceIte, Nat.reduceEqDiff, Nat.reduceAdd, vcells, vcut, cutSK, cutVK, cutNK, fillV, spl, Nat.reduceLeDiff, V.isNil, bne_self_eq_false]
      refine chooseK_split (fun h6 => ?_) (fun h6 => ?_) <;> simp -implicitDefEqProofs only [h6, List.append_assoc, getL, getL0, setL, setL0, List.set_cons_zero, List.set_cons_succ, encL_len, encMs_len, take7a, take8a, drop7a, JV.len, take7, take9, wset, tailW, tailEnd, isLenV, isOneV, vop, vbin, vbinI, vun, ↓reduceIte, Nat.reduceEqDiff, Nat.reduceAdd, vcells, vcut, cutSK, cutVK, cutNK, fillV, spl, Nat.reduceLeDiff, V.isNil, bne_self_eq_false]
      · rw [eqL_len (by simp at h6; omega)] at no
        exact exitNew hw (by rfl) (by rfl) (no (by simp))
      refine chooseK_split (fun h7 => ?_) (fun h7 => ?_) <;> simp -implicitDefEqProofs only [h7, List.append_assoc, getL, getL0, setL, setL0, List.set_cons_zero, List.set_cons_succ, encL_len, encMs_len, take7a, take8a, drop7a, JV.len, take7, take9, wset, tailW, tailEnd, isLenV, isOneV, vop, vbin, vbinI, vun, ↓reduceIte, Nat.reduceEqDiff, Nat.reduceAdd, vcells, vcut, cutSK, cutVK, cutNK, fillV, spl, Nat.reduceLeDiff, V.isNil, bne_self_eq_false]
      · rw [eqM_len (by simp at h7; omega)] at no
        exact exitNew hw (by rfl) (by rfl) (no (by simp))
      have hli : is.length = is'.length := by simp at h6; omega
      have hlm : ms.length = ms'.length := by simp at h7; omega
      refine LoopP.intro (fun n0 fr σ' => ∃ (j : Nat), j ≤ is.length ∧ n0 = is.length - j ∧ eqL false is is' = eqL false (is.drop j) (is'.drop j) ∧ fr 2 = .bool false ∧ fr 3 = .ref (some (σ.objs.length, 0)) ∧ fr 4 = .ref (some (σ.objs.length + 1, 0)) ∧ fr 7 = .int .i64 (j : Int) ∧
          σ' = ⟨σ.objs ++ [[.int .i64 k, .bool b, .int .i64 n, .str s, slcE ni (encL is), slcE nm (encMs ms), .int .i64 a], [.int .i64 k', .bool b', .int .i64 n', .str s', slcE ni' (encL is'), slcE nm' (encMs ms'), .int .i64 a']], σ.maps, σ.toks, σ.tys ++ [25, 25], σ.tts⟩) is.length ?_ ?_
      · exact ⟨0, by omega, by omega, rfl, rfl, rfl, rfl, rfl, rfl⟩
      rintro n0 fr σ' ⟨j, hj, rfl, he, f2, f3, f4, f7, rfl⟩
      simp -implicitDefEqProofs only [f2, f3, f4, f7, slcE, List.append_assoc, getL, getL0, setL, setL0, List.set_cons_zero, List.set_cons_succ, encL_len, encMs_len, take7a, take8a, drop7a, JV.len, take7, take9, wset, tailW, tailEnd, isLenV, isOneV, vop, vbin, vbinI, vun, ↓reduceIte, Nat.reduceEqDiff, Nat.reduceAdd, vcells, vcut, cutSK, cutVK, cutNK, fillV, spl, Nat.reduceLeDiff, V.isNil, bne_self_eq_false]
      refine chooseK_split (fun g1 => ?_) (fun g1 => ?_) <;> simp -implicitDefEqProofs only [g1, f2, f3, f4, f7, List.append_assoc, getL, getL0, setL, setL0, List.set_cons_zero, List.set_cons_succ, encL_len, encMs_len, take7a, take8a, drop7a, JV.len, take7, take9, wset, tailW, tailEnd, isLenV, isOneV, vop, vbin, vbinI, vun, ↓reduceIte, Nat.reduceEqDiff, Nat.reduceAdd, vcells, vcut, cutSK, cutVK, cutNK, fillV, spl, Nat.reduceLeDiff, V.isNil, bne_self_eq_false]
      · have hjl : j < is.length := by simp at g1; omega
        have hm := getD_mem (d := jnull) hjl
        have hwt := wtL_mem hm
        rw [drop_getD jnull hjl, drop_getD jnull (show j < is'.length by omega), eqL] at he
        refine ⟨by omega, encL_cells is, ?_⟩
        rw [encL_get is j hjl]
        generalize hv0 : is.getD j jnull = v0 at *
        simp -implicitDefEqProofs only [JV.enc, f2, f3, f4, f7, List.append_assoc, getL, getL0, setL, setL0, List.set_cons_zero, List.set_cons_succ, encL_len, encMs_len, take7a, take8a, drop7a, JV.len, take7, take9, wset, tailW, tailEnd, isLenV, isOneV, vop, vbin, vbinI, vun, ↓reduceIte, Nat.reduceEqDiff, Nat.reduceAdd, vcells, vcut, cutSK, cutVK, cutNK, fillV, spl, Nat.reduceLeDiff, V.isNil, bne_self_eq_false]
        refine ⟨by omega, encL_cells is', ?_⟩
        rw [encL_get is' j (by omega)]
        generalize hw0 : is'.getD j jnull = w0 at *
        simp -implicitDefEqProofs only [JV.enc, f2, f3, f4, f7, List.append_assoc, getL, getL0, setL, setL0, List.set_cons_zero, List.set_cons_succ, encL_len, encMs_len, take7a, take8a, drop7a, JV.len, take7, take9, wset, tailW, tailEnd, isLenV, isOneV, vop, vbin, vbinI, vun, ↓reduceIte, Nat.reduceEqDiff, Nat.reduceAdd, vcells, vcut, cutSK, cutVK, cutNK, fillV, spl, Nat.reduceLeDiff, V.isNil, bne_self_eq_false]
        refine ih v0 w0 (by omega) (by unfold big; omega) _ _ ?_
        simp -implicitDefEqProofs only [f2, f3, f4, f7, List.append_assoc, getL, getL0, setL, setL0, List.set_cons_zero, List.set_cons_succ, encL_len, encMs_len, take7a, take8a, drop7a, JV.len, take7, take9, wset, tailW, tailEnd, isLenV, isOneV, vop, vbin, vbinI, vun, ↓reduceIte, Nat.reduceEqDiff, Nat.reduceAdd, vcells, vcut, cutSK, cutVK, cutNK, fillV, spl, Nat.reduceLeDiff, V.isNil, bne_self_eq_false]
        refine chooseK_split (fun g2 => ?_) (fun g2 => ?_) <;> simp -implicitDefEqProofs only [g2, f2, f3, f4, f7, List.append_assoc, getL, getL0, setL, setL0, List.set_cons_zero, List.set_cons_succ, encL_len, encMs_len, take7a, take8a, drop7a, JV.len, take7, take9, wset, tailW, tailEnd, isLenV, isOneV, vop, vbin, vbinI, vun, ↓reduceIte, Nat.reduceEqDiff, Nat.reduceAdd, vcells, vcut, cutSK, cutVK, cutNK, fillV, spl, Nat.reduceLeDiff, V.isNil, bne_self_eq_false]
        · rw [wrap64 (by omega)]
          rw [g2, Bool.true_and] at he
          exact ⟨is.length - (j + 1), by omega, j + 1, by omega, rfl, he, f2, f3, f4, rfl, rfl⟩
        · rw [g2, Bool.false_and] at he
          exact exitNew hw (by rfl) (by rfl) (no (by simp [he]))
      · have hj2 : j = is.length := by simp at g1; omega
        rw [List.drop_of_length_le (by omega), List.drop_of_length_le (by omega), eqL] at he
        refine LoopP.intro (fun n0 fr σ' => ∃ (j : Nat) (X : List (List V)) (Y : List TypeId), j ≤ ms.length ∧ n0 = ms.length - j ∧ eqM false ms ms' = eqM false (ms.drop j) (ms'.drop j) ∧ fr 2 = .bool false ∧ fr 3 = .ref (some (σ.objs.length, 0)) ∧ fr 4 = .ref (some (σ.objs.length + 1, 0)) ∧ fr 8 = .int .i64 (j : Int) ∧
            σ' = ⟨σ.objs ++ ([.int .i64 k, .bool b, .int .i64 n, .str s, slcE ni (encL is), slcE nm (encMs ms), .int .i64 a] :: [.int .i64 k', .bool b', .int .i64 n', .str s', slcE ni' (encL is'), slcE nm' (encMs ms'), .int .i64 a'] :: X), σ.maps, σ.toks, σ.tys ++ Y, σ.tts⟩) ms.length ?_ ?_
        · exact ⟨0, [], _, by omega, by omega, rfl, f2, f3, f4, rfl, rfl⟩
        clear f2 f3 f4 f7
        rintro n0 fr σ' ⟨j, X, Y, hj, rfl, he', f2, f3, f4, f7, rfl⟩
        simp -implicitDefEqProofs only [f2, f3, f4, f7, slcE, List.append_assoc, getL, getL0, setL, setL0, List.set_cons_zero, List.set_cons_succ, encL_len, encMs_len, take7a, take8a, drop7a, JV.len, take7, take9, wset, tailW, tailEnd, isLenV, isOneV, vop, vbin, vbinI, vun, ↓reduceIte, Nat.reduceEqDiff, Nat.reduceAdd, vcells, vcut, cutSK, cutVK, cutNK, fillV, spl, Nat.reduceLeDiff, V.isNil, bne_self_eq_false]
        refine chooseK_split (fun g3 => ?_) (fun g3 => ?_) <;> simp -implicitDefEqProofs only [g3, f2, f3, f4, f7, List.append_assoc, getL, getL0, setL, setL0, List.set_cons_zero, List.set_cons_succ, encL_len, encMs_len, take7a, take8a, drop7a, JV.len, take7, take9, wset, tailW, tailEnd, isLenV, isOneV, vop, vbin, vbinI, vun, ↓reduceIte, Nat.reduceEqDiff, Nat.reduceAdd, vcells, vcut, cutSK, cutVK, cutNK, fillV, spl, Nat.reduceLeDiff, V.isNil, bne_self_eq_false]
        · have hjl : j < ms.length := by simp at g3; omega
          have hm := getD_mem (d := jmnull) hjl
          have hwt := wtM_mem hm
          rw [drop_getD jmnull hjl, drop_getD jmnull (show j < ms'.length by omega), eqM] at he'
          refine ⟨by omega, encMs_cells ms, ?_⟩
          rw [encMs_get ms j hjl, show ms.getD j (.mk [] (jv 0 false 0 [] [] [] 0) 0) = ms.getD j jmnull from rfl]
          generalize hv0 : ms.getD j jmnull = v0 at *
          obtain ⟨x0, v0, a0⟩ := v0
          simp -implicitDefEqProofs only [JM.enc, JM.len, f2, f3, f4, f7, List.append_assoc, getL, getL0, setL, setL0, List.set_cons_zero, List.set_cons_succ, encL_len, encMs_len, take7a, take8a, drop7a, JV.len, take7, take9, wset, tailW, tailEnd, isLenV, isOneV, vop, vbin, vbinI, vun, ↓reduceIte, Nat.reduceEqDiff, Nat.reduceAdd, vcells, vcut, cutSK, cutVK, cutNK, fillV, spl, Nat.reduceLeDiff, V.isNil, bne_self_eq_false]
          refine ⟨by omega, encMs_cells ms', ?_⟩
          rw [encMs_get ms' j (by omega), show ms'.getD j (.mk [] (jv 0 false 0 [] [] [] 0) 0) = ms'.getD j jmnull from rfl]
          generalize hw0 : ms'.getD j jmnull = w0 at *
          obtain ⟨y0, w0, b0⟩ := w0
          rw [JM.wt] at hwt
          rw [eqMm] at he'
          simp -implicitDefEqProofs only [JM.enc, JM.len, f2, f3, f4, f7, List.append_assoc, getL, getL0, setL, setL0, List.set_cons_zero, List.set_cons_succ, encL_len, encMs_len, take7a, take8a, drop7a, JV.len, take7, take9, JM.cells, wset, tailW, tailEnd, isLenV, isOneV, vop, vbin, vbinI, vun, ↓reduceIte, Nat.reduceEqDiff, Nat.reduceAdd, vcells, vcut, cutSK, cutVK, cutNK, fillV, spl, Nat.reduceLeDiff, V.isNil, bne_self_eq_false]
          refine chooseK_split (fun g4 => ?_) (fun g4 => ?_) <;> simp -implicitDefEqProofs only [g4, f2, f3, f4, f7, List.append_assoc, getL, getL0, setL, setL0, List.set_cons_zero, List.set_cons_succ, encL_len, encMs_len, take7a, take8a, drop7a, JV.len, take7, take9, wset, tailW, tailEnd, isLenV, isOneV, vop, vbin, vbinI, vun, ↓reduceIte, Nat.reduceEqDiff, Nat.reduceAdd, vcells, vcut, cutSK, cutVK, cutNK, fillV, spl, Nat.reduceLeDiff, V.isNil, bne_self_eq_false]
          rotate_left
          · rw [g4, Bool.false_and, Bool.false_and, Bool.false_and] at he'
            exact exitNew hw (by rfl) (by rfl) (no (by simp [he']))
          skip
          refine ih v0 w0 (by omega) (by unfold big; omega) _ _ ?_
          simp -implicitDefEqProofs only [f2, f3, f4, f7, List.append_assoc, getL, getL0, setL, setL0, List.set_cons_zero, List.set_cons_succ, encL_len, encMs_len, take7a, take8a, drop7a, JV.len, take7, take9, wset, tailW, tailEnd, isLenV, isOneV, vop, vbin, vbinI, vun, ↓reduceIte, Nat.reduceEqDiff, Nat.reduceAdd, vcells, vcut, cutSK, cutVK, cutNK, fillV, spl, Nat.reduceLeDiff, V.isNil, bne_self_eq_false]
          refine chooseK_split (fun g6 => ?_) (fun g6 => ?_) <;> simp -implicitDefEqProofs only [g6, f2, f3, f4, f7, List.append_assoc, getL, getL0, setL, setL0, List.set_cons_zero, List.set_cons_succ, encL_len, encMs_len, take7a, take8a, drop7a, JV.len, take7, take9, wset, tailW, tailEnd, isLenV, isOneV, vop, vbin, vbinI, vun, ↓reduceIte, Nat.reduceEqDiff, Nat.reduceAdd, vcells, vcut, cutSK, cutVK, cutNK, fillV, spl, Nat.reduceLeDiff, V.isNil, bne_self_eq_false]
          · rw [wrap64 (by omega)]
            exact ⟨ms.length - (j + 1), by omega, j + 1, _, _, by omega, rfl, by simp [*], f2, f3, f4, rfl, rfl⟩
          · exact exitNew hw (by rfl) (by rfl) (no (by simp [he', g6]))
        · have hj3 : j = ms.length := by simp at g3; omega
          rw [List.drop_of_length_le (by omega), List.drop_of_length_le (by omega), eqM] at he'
          rw [he, he'] at h
          exact exitNew hw (by rfl) (by rfl) (by simpa [*] using h)
    | true =>
      simp -implicitDefEqProofs only [List.append_assoc, getL, getL0, setL, setL0, List.set_cons_zero, List.set_cons_succ, encL_len, encMs_len, take7a, take8a, drop7a, JV.len, take7, take9, wset, tailW, tailEnd, isLenV, isOneV, vop, vbin, vbinI, vun, ↓reduceIte, Nat.reduceEqDiff, Nat.reduceAdd, vcells, vcut, cutSK, cutVK, cutNK, fillV, spl, Nat.reduceLeDiff, V.isNil, bne_self_eq_false]
      refine chooseK_split (fun h5 => ?_) (fun h5 => ?_) <;> simp -implicitDefEqProofs only [h5, List.append_assoc, getL, getL0, setL, setL0, List.set_cons_zero, List.set_cons_succ, encL_len, encMs_len, take7a, take8a, drop7a, JV.len, take7, take9, wset, tailW, tailEnd, isLenV, isOneV, vop, vbin, vbinI, vun, ↓reduceIte, Nat.reduceEqDiff, Nat.reduceAdd, vcells, vcut, cutSK, cutVK, cutNK, fillV, spl, Nat.reduceLeDiff, V.isNil, bne_self_eq_false]
      · exact exitNew hw (by rfl) (by rfl) (no (by simp_all))
      have h5' : a = a' := by simpa using h5
      refine chooseK_split (fun h6 => ?_) (fun h6 => ?_) <;> simp -implicitDefEqProofs only [h6, List.append_assoc, getL, getL0, setL, setL0, List.set_cons_zero, List.set_cons_succ, encL_len, encMs_len, take7a, take8a, drop7a, JV.len, take7, take9, wset, tailW, tailEnd, isLenV, isOneV, vop, vbin, vbinI, vun, ↓reduceIte, Nat.reduceEqDiff, Nat.reduceAdd, vcells, vcut, cutSK, cutVK, cutNK, fillV, spl, Nat.reduceLeDiff, V.isNil, bne_self_eq_false]
      · rw [eqL_len (by simp at h6; omega)] at no
        exact exitNew hw (by rfl) (by rfl) (no (by simp))
      refine chooseK_split (fun h7 => ?_) (fun h7 => ?_) <;> simp -implicitDefEqProofs only [h7, List.append_assoc, getL, getL0, setL, setL0, List.set_cons_zero, List.set_cons_succ, encL_len, encMs_len, take7a, take8a, drop7a, JV.len, take7, take9, wset, tailW, tailEnd, isLenV, isOneV, vop, vbin, vbinI, vun, ↓reduceIte, Nat.reduceEqDiff, Nat.reduceAdd, vcells, vcut, cutSK, cutVK, cutNK, fillV, spl, Nat.reduceLeDiff, V.isNil, bne_self_eq_false]
      · rw [eqM_len (by simp at h7; omega)] at no
        exact exitNew hw (by rfl) (by rfl) (no (by simp))
      have hli : is.length = is'.length := by simp at h6; omega
      have hlm : ms.length = ms'.length := by simp at h7; omega
      refine LoopP.intro (fun n0 fr σ' => ∃ (j : Nat), j ≤ is.length ∧ n0 = is.length - j ∧ eqL true is is' = eqL true (is.drop j) (is'.drop j) ∧ fr 2 = .bool true ∧ fr 3 = .ref (some (σ.objs.length, 0)) ∧ fr 4 = .ref (some (σ.objs.length + 1, 0)) ∧ fr 7 = .int .i64 (j : Int) ∧
          σ' = ⟨σ.objs ++ [[.int .i64 k, .bool b, .int .i64 n, .str s, slcE ni (encL is), slcE nm (encMs ms), .int .i64 a], [.int .i64 k', .bool b', .int .i64 n', .str s', slcE ni' (encL is'), slcE nm' (encMs ms'), .int .i64 a']], σ.maps, σ.toks, σ.tys ++ [25, 25], σ.tts⟩) is.length ?_ ?_
      · exact ⟨0, by omega, by omega, rfl, rfl, rfl, rfl, rfl, rfl⟩
      rintro n0 fr σ' ⟨j, hj, rfl, he, f2, f3, f4, f7, rfl⟩
      simp -implicitDefEqProofs only [f2, f3, f4, f7, slcE, List.append_assoc, getL, getL0, setL, setL0, List.set_cons_zero, List.set_cons_succ, encL_len, encMs_len, take7a, take8a, drop7a, JV.len, take7, take9, wset, tailW, tailEnd, isLenV, isOneV, vop, vbin, vbinI, vun, ↓reduceIte, Nat.reduceEqDiff, Nat.reduceAdd, vcells, vcut, cutSK, cutVK, cutNK, fillV, spl, Nat.reduceLeDiff, V.isNil, bne_self_eq_false]
      refine chooseK_split (fun g1 => ?_) (fun g1 => ?_) <;> simp -implicitDefEqProofs only [g1, f2, f3, f4, f7, List.append_assoc, getL, getL0, setL, setL0, List.set_cons_zero, List.set_cons_succ, encL_len, encMs_len, take7a, take8a, drop7a, JV.len, take7, take9, wset, tailW, tailEnd, isLenV, isOneV, vop, vbin, vbinI, vun, ↓reduceIte, Nat.reduceEqDiff, Nat.reduceAdd, vcells, vcut, cutSK, cutVK, cutNK, fillV, spl, Nat.reduceLeDiff, V.isNil, bne_self_eq_false]
      · have hjl : j < is.length := by simp at g1; omega
        have hm := getD_mem (d := jnull) hjl
        have hwt := wtL_mem hm
        rw [drop_getD jnull hjl, drop_getD jnull (show j < is'.length by omega), eqL] at he
        refine ⟨by omega, encL_cells is, ?_⟩
        rw [encL_get is j hjl]
        generalize hv0 : is.getD j jnull = v0 at *
        simp -implicitDefEqProofs only [JV.enc, f2, f3, f4, f7, List.append_assoc, getL, getL0, setL, setL0, List.set_cons_zero, List.set_cons_succ, encL_len, encMs_len, take7a, take8a, drop7a, JV.len, take7, take9, wset, tailW, tailEnd, isLenV, isOneV, vop, vbin, vbinI, vun, ↓reduceIte, Nat.reduceEqDiff, Nat.reduceAdd, vcells, vcut, cutSK, cutVK, cutNK, fillV, spl, Nat.reduceLeDiff, V.isNil, bne_self_eq_false]
        refine ⟨by omega, encL_cells is', ?_⟩
        rw [encL_get is' j (by omega)]
        generalize hw0 : is'.getD j jnull = w0 at *
        simp -implicitDefEqProofs only [JV.enc, f2, f3, f4, f7, List.append_assoc, getL, getL0, setL, setL0, List.set_cons_zero, List.set_cons_succ, encL_len, encMs_len, take7a, take8a, drop7a, JV.len, take7, take9, wset, tailW, tailEnd, isLenV, isOneV, vop, vbin, vbinI, vun, ↓reduceIte, Nat.reduceEqDiff, Nat.reduceAdd, vcells, vcut, cutSK, cutVK, cutNK, fillV, spl, Nat.reduceLeDiff, V.isNil, bne_self_eq_false]
        refine ih v0 w0 (by omega) (by unfold big; omega) _ _ ?_
        simp -implicitDefEqProofs only [f2, f3, f4, f7, List.append_assoc, getL, getL0, setL, setL0, List.set_cons_zero, List.set_cons_succ, encL_len, encMs_len, take7a, take8a, drop7a, JV.len, take7, take9, wset, tailW, tailEnd, isLenV, isOneV, vop, vbin, vbinI, vun, ↓reduceIte, Nat.reduceEqDiff, Nat.reduceAdd, vcells, vcut, cutSK, cutVK, cutNK, fillV, spl, Nat.reduceLeDiff, V.isNil, bne_self_eq_false]
        refine chooseK_split (fun g2 => ?_) (fun g2 => ?_) <;> simp -implicitDefEqProofs only [g2, f2, f3, f4, f7, List.append_assoc, getL, getL0, setL, setL0, List.set_cons_zero, List.set_cons_succ, encL_len, encMs_len, take7a, take8a, drop7a, JV.len, take7, take9, wset, tailW, tailEnd, isLenV, isOneV, vop, vbin, vbinI, vun, ↓reduceIte, Nat.reduceEqDiff, Nat.reduceAdd, vcells, vcut, cutSK, cutVK, cutNK, fillV, spl, Nat.reduceLeDiff, V.isNil, bne_self_eq_false]
        · rw [wrap64 (by omega)]
          rw [g2, Bool.true_and] at he
          exact ⟨is.length - (j + 1), by omega, j + 1, by omega, rfl, he, f2, f3, f4, rfl, rfl⟩
        · rw [g2, Bool.false_and] at he
          exact exitNew hw (by rfl) (by rfl) (no (by simp [he]))
      · have hj2 : j = is.length := by simp at g1; omega
        rw [List.drop_of_length_le (by omega), List.drop_of_length_le (by omega), eqL] at he
        refine LoopP.intro (fun n0 fr σ' => ∃ (j : Nat) (X : List (List V)) (Y : List TypeId), j ≤ ms.length ∧ n0 = ms.length - j ∧ eqM true ms ms' = eqM true (ms.drop j) (ms'.drop j) ∧ fr 2 = .bool true ∧ fr 3 = .ref (some (σ.objs.length, 0)) ∧ fr 4 = .ref (some (σ.objs.length + 1, 0)) ∧ fr 8 = .int .i64 (j : Int) ∧
            σ' = ⟨σ.objs ++ ([.int .i64 k, .bool b, .int .i64 n, .str s, slcE ni (encL is), slcE nm (encMs ms), .int .i64 a] :: [.int .i64 k', .bool b', .int .i64 n', .str s', slcE ni' (encL is'), slcE nm' (encMs ms'), .int .i64 a'] :: X), σ.maps, σ.toks, σ.tys ++ Y, σ.tts⟩) ms.length ?_ ?_
        · exact ⟨0, [], _, by omega, by omega, rfl, f2, f3, f4, rfl, rfl⟩
        clear f2 f3 f4 f7
        rintro n0 fr σ' ⟨j, X, Y, hj, rfl, he', f2, f3, f4, f7, rfl⟩
        simp -implicitDefEqProofs only [f2, f3, f4, f7, slcE, List.append_assoc, getL, getL0, setL, setL0, List.set_cons_zero, List.set_cons_succ, encL_len, encMs_len, take7a, take8a, drop7a, JV.len, take7, take9, wset, tailW, tailEnd, isLenV, isOneV, vop, vbin, vbinI, vun, ↓reduceIte, Nat.reduceEqDiff, Nat.reduceAdd, vcells, vcut, cutSK, cutVK, cutNK, fillV, spl, Nat.reduceLeDiff, V.isNil, bne_self_eq_false]
        refine chooseK_split (fun g3 => ?_) (fun g3 => ?_) <;> simp -implicitDefEqProofs only [g3, f2, f3, f4, f7, List.append_assoc, getL, getL0, setL, setL0, List.set_cons_zero, List.set_cons_succ, encL_len, encMs_len, take7a, take8a, drop7a, JV.len, take7, take9, wset, tailW, tailEnd, isLenV, isOneV, vop, vbin, vbinI, vun, ↓reduceIte, Nat.reduceEqDiff, Nat.reduceAdd, vcells, vcut, cutSK, cutVK, cutNK, fillV, spl, Nat.reduceLeDiff, V.isNil, bne_self_eq_false]
        · have hjl : j < ms.length := by simp at g3; omega
          have hm := getD_mem (d := jmnull) hjl
          have hwt := wtM_mem hm
          rw [drop_getD jmnull hjl, drop_getD jmnull (show j < ms'.length by omega), eqM] at he'
          refine ⟨by omega, encMs_cells ms, ?_⟩
          rw [encMs_get ms j hjl, show ms.getD j (.mk [] (jv 0 false 0 [] [] [] 0) 0) = ms.getD j jmnull from rfl]
          generalize hv0 : ms.getD j jmnull = v0 at *
          obtain ⟨x0, v0, a0⟩ := v0
          simp -implicitDefEqProofs only [JM.enc, JM.len, f2, f3, f4, f7, List.append_assoc, getL, getL0, setL, setL0, List.set_cons_zero, List.set_cons_succ, encL_len, encMs_len, take7a, take8a, drop7a, JV.len, take7, take9, wset, tailW, tailEnd, isLenV, isOneV, vop, vbin, vbinI, vun, ↓reduceIte, Nat.reduceEqDiff, Nat.reduceAdd, vcells, vcut, cutSK, cutVK, cutNK, fillV, spl, Nat.reduceLeDiff, V.isNil, bne_self_eq_false]
          refine ⟨by omega, encMs_cells ms', ?_⟩
          rw [encMs_get ms' j (by omega), show ms'.getD j (.mk [] (jv 0 false 0 [] [] [] 0) 0) = ms'.getD j jmnull from rfl]
          generalize hw0 : ms'.getD j jmnull = w0 at *
          obtain ⟨y0, w0, b0⟩ := w0
          rw [JM.wt] at hwt
          rw [eqMm] at he'
          simp -implicitDefEqProofs only [JM.enc, JM.len, f2, f3, f4, f7, List.append_assoc, getL, getL0, setL, setL0, List.set_cons_zero, List.set_cons_succ, encL_len, encMs_len, take7a, take8a, drop7a, JV.len, take7, take9, JM.cells, wset, tailW, tailEnd, isLenV, isOneV, vop, vbin, vbinI, vun, ↓reduceIte, Nat.reduceEqDiff, Nat.reduceAdd, vcells, vcut, cutSK, cutVK, cutNK, fillV, spl, Nat.reduceLeDiff, V.isNil, bne_self_eq_false]
          refine chooseK_split (fun g4 => ?_) (fun g4 => ?_) <;> simp -implicitDefEqProofs only [g4, f2, f3, f4, f7, List.append_assoc, getL, getL0, setL, setL0, List.set_cons_zero, List.set_cons_succ, encL_len, encMs_len, take7a, take8a, drop7a, JV.len, take7, take9, wset, tailW, tailEnd, isLenV, isOneV, vop, vbin, vbinI, vun, ↓reduceIte, Nat.reduceEqDiff, Nat.reduceAdd, vcells, vcut, cutSK, cutVK, cutNK, fillV, spl, Nat.reduceLeDiff, V.isNil, bne_self_eq_false]
          rotate_left
          · rw [g4, Bool.false_and, Bool.false_and, Bool.false_and] at he'
            exact exitNew hw (by rfl) (by rfl) (no (by simp [he']))
          refine chooseK_split (fun g5 => ?_) (fun g5 => ?_) <;> simp -implicitDefEqProofs only [g5, f2, f3, f4, f7, List.append_assoc, getL, getL0, setL, setL0, List.set_cons_zero, List.set_cons_succ, encL_len, encMs_len, take7a, take8a, drop7a, JV.len, take7, take9, wset, tailW, tailEnd, isLenV, isOneV, vop, vbin, vbinI, vun, ↓reduceIte, Nat.reduceEqDiff, Nat.reduceAdd, vcells, vcut, cutSK, cutVK, cutNK, fillV, spl, Nat.reduceLeDiff, V.isNil, bne_self_eq_false]
          · rw [show (a0 == b0) = false by simpa using g5] at he'
            exact exitNew hw (by rfl) (by rfl) (no (by simp [he']))
          have g5' : a0 = b0 := by simpa using g5
          refine ih v0 w0 (by omega) (by unfold big; omega) _ _ ?_
          simp -implicitDefEqProofs only [f2, f3, f4, f7, List.append_assoc, getL, getL0, setL, setL0, List.set_cons_zero, List.set_cons_succ, encL_len, encMs_len, take7a, take8a, drop7a, JV.len, take7, take9, wset, tailW, tailEnd, isLenV, isOneV, vop, vbin, vbinI, vun, ↓reduceIte, Nat.reduceEqDiff, Nat.reduceAdd, vcells, vcut, cutSK, cutVK, cutNK, fillV, spl, Nat.reduceLeDiff, V.isNil, bne_self_eq_false]
          refine chooseK_split (fun g6 => ?_) (fun g6 => ?_) <;> simp -implicitDefEqProofs only [g6, f2, f3, f4, f7, List.append_assoc, getL, getL0, setL, setL0, List.set_cons_zero, List.set_cons_succ, encL_len, encMs_len, take7a, take8a, drop7a, JV.len, take7, take9, wset, tailW, tailEnd, isLenV, isOneV, vop, vbin, vbinI, vun, ↓reduceIte, Nat.reduceEqDiff, Nat.reduceAdd, vcells, vcut, cutSK, cutVK, cutNK, fillV, spl, Nat.reduceLeDiff, V.isNil, bne_self_eq_false]
          · rw [wrap64 (by omega)]
            exact ⟨ms.length - (j + 1), by omega, j + 1, _, _, by omega, rfl, by simp [*], f2, f3, f4, rfl, rfl⟩
          · exact exitNew hw (by rfl) (by rfl) (no (by simp [he', g6]))
        · have hj3 : j = ms.length := by simp at g3; omega
          rw [List.drop_of_length_le (by omega), List.drop_of_length_le (by omega), eqM] at he'
          rw [he, he'] at h
          exact exitNew hw (by rfl) (by rfl) (by simpa [*] using h)

mutual
/-- Are all offsets 0? -/
def zeroJ : JV → Bool
  | .mk _ _ _ _ _ is _ ms a => a == 0 && (zeroL is && zeroM ms)
def zeroL : List JV → Bool
  | [] => true
  | v :: r => zeroJ v && zeroL r
def zeroMm : JM → Bool
  | .mk _ v a => a == 0 && zeroJ v
def zeroM : List JM → Bool
  | [] => true
  | m :: r => zeroMm m && zeroM r
end
theorem zeroL_mem {v : JV} : ∀ {l : List JV}, zeroL l = true → v ∈ l → zeroJ v = true
  | [], _, h => by cases h
  | u :: r, hz, h => by
    simp only [zeroL, Bool.and_eq_true] at hz
    rcases List.mem_cons.1 h with rfl | h
    · exact hz.1
    · exact zeroL_mem hz.2 h
theorem zeroM_mem {v : JM} : ∀ {l : List JM}, zeroM l = true → v ∈ l → zeroMm v = true
  | [], _, h => by cases h
  | u :: r, hz, h => by
    simp only [zeroM, Bool.and_eq_true] at hz
    rcases List.mem_cons.1 h with rfl | h
    · exact hz.1
    · exact zeroM_mem hz.2 h
mutual
theorem eqJ_refl (o : Bool) : ∀ v, eqJ o v v = true
  | .mk k b n s ni is nm ms a => by simp [eqJ, eqL_refl o is, eqM_refl o ms]
theorem eqL_refl (o : Bool) : ∀ l, eqL o l l = true
  | [] => by rw [eqL]
  | v :: r => by simp [eqL, eqJ_refl o v, eqL_refl o r]
theorem eqMm_refl (o : Bool) : ∀ m, eqMm o m m = true
  | .mk k v a => by simp [eqMm, eqJ_refl o v]
theorem eqM_refl (o : Bool) : ∀ l, eqM o l l = true
  | [] => by rw [eqM]
  | v :: r => by simp [eqM, eqMm_refl o v, eqM_refl o r]
end
mutual
theorem eqJ_strip : ∀ v, eqJ false v (stripJ v) = true
  | .mk k b n s ni is nm ms a => by simp [stripJ, eqJ, eqL_strip is, eqM_strip ms]
theorem eqL_strip : ∀ l, eqL false l (stripL l) = true
  | [] => by rw [stripL, eqL]
  | v :: r => by simp [stripL, eqL, eqJ_strip v, eqL_strip r]
theorem eqMm_strip : ∀ m, eqMm false m (stripMm m) = true
  | .mk k v a => by simp [stripMm, eqMm, eqJ_strip v]
theorem eqM_strip : ∀ l, eqM false l (stripM l) = true
  | [] => by rw [stripM, eqM]
  | v :: r => by simp [stripM, eqM, eqMm_strip v, eqM_strip r]
end
mutual
theorem zeroJ_strip : ∀ v, zeroJ (stripJ v) = true
  | .mk k b n s ni is nm ms a => by simp [stripJ, zeroJ, zeroL_strip is, zeroM_strip ms]
theorem zeroL_strip : ∀ l, zeroL (stripL l) = true
  | [] => by rw [stripL, zeroL]
  | v :: r => by simp [stripL, zeroL, zeroJ_strip v, zeroL_strip r]
theorem zeroMm_strip : ∀ m, zeroMm (stripMm m) = true
  | .mk k v a => by simp [stripMm, zeroMm, zeroJ_strip v]
theorem zeroM_strip : ∀ l, zeroM (stripM l) = true
  | [] => by rw [stripM, zeroM]
  | v :: r => by simp [stripM, zeroM, zeroMm_strip v, zeroM_strip r]
end
mutual
theorem wt_strip : ∀ v, (stripJ v).wt = v.wt
  | .mk k b n s ni is nm ms a => by simp [stripJ, JV.wt, wtL_strip is, wtM_strip ms]
theorem wtL_strip : ∀ l, wtL (stripL l) = wtL l
  | [] => by rw [stripL]
  | v :: r => by simp [stripL, wtL, wt_strip v, wtL_strip r]
theorem wtMm_strip : ∀ m, (stripMm m).wt = m.wt
  | .mk k v a => by simp [stripMm, JM.wt, wt_strip v]
theorem wtM_strip : ∀ l, wtM (stripM l) = wtM l
  | [] => by rw [stripM]
  | v :: r => by simp [stripM, wtM, wtMm_strip v, wtM_strip r]
end

theorem zero_C : ∀ (N : Nat) (v : JV), v.wt ≤ N → v.wt ≤ big → zeroJ v = true → ∀ (σ : St) (Q : Out → St → Prop), Q (.ret (.int .i64 1)) σ → C Xc 15 [v.enc] σ Q := by
  intro N
  induction N with
  | zero => intro v hv; have := v.wt_pos; omega
  | succ N ih =>
    intro v hv hb hz σ Q h
    obtain ⟨k, b, n, s, ni, is, nm, ms, a⟩ := v
    unfold big at hb
    rw [JV.wt] at hv hb
    have hwL := wtL_len is
    have hwM := wtM_len ms
    simp only [zeroJ, Bool.and_eq_true, beq_iff_eq] at hz
    obtain ⟨rfl, hzL, hzM⟩ := hz
    have e00 : ((0 : Int) == 0) = true := rfl
    have e11 : ((1 : Int) == 1) = true := rfl
    refine bodyW cf_law11zero (Eq.refl true) fun hw => ?_
    simp -implicitDefEqProofs only [vf_law11zero, JV.enc, JV.cells, slcE, List.append_assoc, getL, getL0, setL, setL0, List.set_cons_zero, List.set_cons_succ, encL_len, encMs_len, take7a, take8a, drop7a, JV.len, take7, take9, e00, wset, tailW, tailEnd, isLenV, isOneV, vop, vbin, vbinI, vun, ↓reduceIte, Nat.reduceEqDiff, Nat.reduceAdd, vcells, vcut, cutSK, cutVK, cutNK, fillV, spl, Nat.reduceLeDiff, V.isNil, bne_self_eq_false]
    refine LoopP.intro (fun n0 fr σ' => ∃ (j : Nat) (X : List (List V)) (Y : List TypeId), j ≤ is.length ∧ n0 = is.length - j ∧ fr 1 = .ref (some (σ.objs.length, 0)) ∧ fr 3 = .bool true ∧ fr 12 = .slc (ni || !(encL is).isEmpty) (encL is) .no ∧ fr 13 = .int .i64 (is.length : Int) ∧ fr 14 = .int .i64 (j : Int) ∧
      σ' = ⟨σ.objs ++ ([.int .i64 k, .bool b, .int .i64 n, .str s, slcE ni (encL is), slcE nm (encMs ms), .int .i64 0] :: X), σ.maps, σ.toks, σ.tys ++ Y, σ.tts⟩) is.length ?_ ?_
    · exact ⟨0, [], _, by omega, by omega, rfl, rfl, rfl, rfl, rfl, rfl⟩
    rintro n0 fr σ' ⟨j, X, Y, hj, rfl, f1, f3, f12, f13, f14, rfl⟩
    simp -implicitDefEqProofs only [f1, f3, f12, f13, f14, List.append_assoc, getL, getL0, setL, setL0, List.set_cons_zero, List.set_cons_succ, encL_len, encMs_len, take7a, take8a, drop7a, JV.len, take7, take9, wset, tailW, tailEnd, isLenV, isOneV, vop, vbin, vbinI, vun, ↓reduceIte, Nat.reduceEqDiff, Nat.reduceAdd, vcells, vcut, cutSK, cutVK, cutNK, fillV, spl, Nat.reduceLeDiff, V.isNil, bne_self_eq_false]
    refine chooseK_split (fun g1 => ?_) (fun g1 => ?_) <;> simp -implicitDefEqProofs only [g1, f1, f3, f12, f13, f14, List.append_assoc, getL, getL0, setL, setL0, List.set_cons_zero, List.set_cons_succ, encL_len, encMs_len, take7a, take8a, drop7a, JV.len, take7, take9, wset, tailW, tailEnd, isLenV, isOneV, vop, vbin, vbinI, vun, ↓reduceIte, Nat.reduceEqDiff, Nat.reduceAdd, vcells, vcut, cutSK, cutVK, cutNK, fillV, spl, Nat.reduceLeDiff, V.isNil, bne_self_eq_false]
    · have hjl : j < is.length := by simp at g1; omega
      have hm := getD_mem (d := jnull) hjl
      have hwt := wtL_mem hm
      have hzv := zeroL_mem hzL hm
      refine ⟨by omega, encL_cells is, ?_⟩
      rw [encL_get is j hjl]
      generalize hv0 : is.getD j jnull = v0 at *
      simp -implicitDefEqProofs only [JV.enc, f1, f3, f12, f13, f14, List.append_assoc, getL, getL0, setL, setL0, List.set_cons_zero, List.set_cons_succ, encL_len, encMs_len, take7a, take8a, drop7a, JV.len, take7, take9, wset, tailW, tailEnd, isLenV, isOneV, vop, vbin, vbinI, vun, ↓reduceIte, Nat.reduceEqDiff, Nat.reduceAdd, vcells, vcut, cutSK, cutVK, cutNK, fillV, spl, Nat.reduceLeDiff, V.isNil, bne_self_eq_false]
      refine ih v0 (by omega) (by unfold big; omega) hzv _ _ ?_
      simp -implicitDefEqProofs only [f1, f3, f12, f13, f14, List.append_assoc, getL, getL0, setL, setL0, List.set_cons_zero, List.set_cons_succ, encL_len, encMs_len, take7a, take8a, drop7a, JV.len, take7, take9, e11, wset, tailW, tailEnd, isLenV, isOneV, vop, vbin, vbinI, vun, ↓reduceIte, Nat.reduceEqDiff, Nat.reduceAdd, vcells, vcut, cutSK, cutVK, cutNK, fillV, spl, Nat.reduceLeDiff, V.isNil, bne_self_eq_false]
      rw [wrap64 (by omega)]
      exact ⟨is.length - (j + 1), by omega, j + 1, _, _, by omega, rfl, f1, rfl, f12, f13, rfl, rfl⟩
    simp -implicitDefEqProofs only [f1, slcE, List.append_assoc, getL, getL0, setL, setL0, List.set_cons_zero, List.set_cons_succ, encL_len, encMs_len, take7a, take8a, drop7a, JV.len, take7, take9, wset, tailW, tailEnd, isLenV, isOneV, vop, vbin, vbinI, vun, ↓reduceIte, Nat.reduceEqDiff, Nat.reduceAdd, vcells, vcut, cutSK, cutVK, cutNK, fillV, spl, Nat.reduceLeDiff, V.isNil, bne_self_eq_false]
    refine LoopP.intro (fun n0 fr σ' => ∃ (j : Nat) (X : List (List V)) (Y : List TypeId), j ≤ ms.length ∧ n0 = ms.length - j ∧ fr 3 = .bool true ∧ fr 26 = .slc (nm || !(encMs ms).isEmpty) (encMs ms) .no ∧ fr 27 = .int .i64 (ms.length : Int) ∧ fr 28 = .int .i64 (j : Int) ∧
      σ' = ⟨σ.objs ++ X, σ.maps, σ.toks, σ.tys ++ Y, σ.tts⟩) ms.length ?_ ?_
    · exact ⟨0, _, _, by omega, by omega, f3, rfl, rfl, rfl, rfl⟩
    clear f1 f3 f12 f13 f14
    rintro n0 fr σ' ⟨j, X, Y, hj, rfl, f3, f26, f27, f28, rfl⟩
    simp -implicitDefEqProofs only [f3, f26, f27, f28, List.append_assoc, getL, getL0, setL, setL0, List.set_cons_zero, List.set_cons_succ, encL_len, encMs_len, take7a, take8a, drop7a, JV.len, take7, take9, wset, tailW, tailEnd, isLenV, isOneV, vop, vbin, vbinI, vun, ↓reduceIte, Nat.reduceEqDiff, Nat.reduceAdd, vcells, vcut, cutSK, cutVK, cutNK, fillV, spl, Nat.reduceLeDiff, V.isNil, bne_self_eq_false]
    refine chooseK_split (fun g2 => ?_) (fun g2 => ?_) <;> simp -implicitDefEqProofs only [g2, f3, f26, f27, f28, List.append_assoc, getL, getL0, setL, setL0, List.set_cons_zero, List.set_cons_succ, encL_len, encMs_len, take7a, take8a, drop7a, JV.len, take7, take9, wset, tailW, tailEnd, isLenV, isOneV, vop, vbin, vbinI, vun, ↓reduceIte, Nat.reduceEqDiff, Nat.reduceAdd, vcells, vcut, cutSK, cutVK, cutNK, fillV, spl, Nat.reduceLeDiff, V.isNil, bne_self_eq_false]
    · have hjl : j < ms.length := by simp at g2; omega
      have hm := getD_mem (d := jmnull) hjl
      have hwt := wtM_mem hm
      have hzv := zeroM_mem hzM hm
      refine ⟨by omega, encMs_cells ms, ?_⟩
      rw [encMs_get ms j hjl, show ms.getD j (.mk [] (jv 0 false 0 [] [] [] 0) 0) = ms.getD j jmnull from rfl]
      generalize hv0 : ms.getD j jmnull = v0 at *
      obtain ⟨x0, v0, a0⟩ := v0
      rw [JM.wt] at hwt
      simp only [zeroMm, Bool.and_eq_true, beq_iff_eq] at hzv
      obtain ⟨rfl, hzv⟩ := hzv
      simp -implicitDefEqProofs only [JM.enc, JM.len, JM.cells, f3, f26, f27, f28, List.append_assoc, getL, getL0, setL, setL0, List.set_cons_zero, List.set_cons_succ, encL_len, encMs_len, take7a, take8a, drop7a, JV.len, take7, take9, e00, wset, tailW, tailEnd, isLenV, isOneV, vop, vbin, vbinI, vun, ↓reduceIte, Nat.reduceEqDiff, Nat.reduceAdd, vcells, vcut, cutSK, cutVK, cutNK, fillV, spl, Nat.reduceLeDiff, V.isNil, bne_self_eq_false]
      refine ih v0 (by omega) (by unfold big; omega) hzv _ _ ?_
      simp -implicitDefEqProofs only [f3, f26, f27, f28, List.append_assoc, getL, getL0, setL, setL0, List.set_cons_zero, List.set_cons_succ, encL_len, encMs_len, take7a, take8a, drop7a, JV.len, take7, take9, e11, wset, tailW, tailEnd, isLenV, isOneV, vop, vbin, vbinI, vun, ↓reduceIte, Nat.reduceEqDiff, Nat.reduceAdd, vcells, vcut, cutSK, cutVK, cutNK, fillV, spl, Nat.reduceLeDiff, V.isNil, bne_self_eq_false]
      rw [wrap64 (by omega)]
      exact ⟨ms.length - (j + 1), by omega, j + 1, _, _, by omega, rfl, rfl, f26, f27, rfl, rfl⟩
    exact exitNew hw (by rfl) (by rfl) h

theorem vmin2_nat (a b : Nat) : vmin2 (.int .i64 (a : Int)) (.int .i64 (b : Int)) = some (.int .i64 ((min a b : Nat) : Int)) := by
  simp only [vmin2, ↓reduceIte]
  split
  · rw [Nat.min_eq_right (by omega)]
  · rw [Nat.min_eq_left (by omega)]

theorem wtL_take (l : List JV) : ∀ (j : Nat), j < l.length → wtL (l.take (j + 1)) = wtL (l.take j) + (l.getD j jnull).wt := by
  induction l with
  | nil => intro j hj; simp at hj
  | cons v r ih =>
    intro j hj
    cases j with
    | zero => simp [wtL]
    | succ j =>
      have := ih j (by simpa using hj)
      simp only [List.take_succ_cons, wtL, this, List.getD_cons_succ]
      omega
theorem wtM_take (l : List JM) : ∀ (j : Nat), j < l.length → wtM (l.take (j + 1)) = wtM (l.take j) + (l.getD j jmnull).wt := by
  induction l with
  | nil => intro j hj; simp at hj
  | cons v r ih =>
    intro j hj
    cases j with
    | zero => simp [wtM]
    | succ j =>
      have := ih j (by simpa using hj)
      simp only [List.take_succ_cons, wtM, this, List.getD_cons_succ]
      omega

theorem weight_C : ∀ (N : Nat) (v : JV), v.wt ≤ N → ∀ (t : Nat) (σ : St) (Q : Out → St → Prop), t ≤ 18000 → (∀ r : Nat, r ≤ 40000 → t < r → (r ≤ 9000 → r = t + v.wt) → Q (.ret (.int .i64 (r : Int))) σ) → C Xc 19 [v.enc, .int .i64 (t : Int)] σ Q := by
  intro N
  induction N with
  | zero => intro v hv; have := v.wt_pos; omega
  | succ N ih =>
    intro v hv t σ Q ht h
    obtain ⟨k, b, n, s, ni, is, nm, ms, a⟩ := v
    rw [JV.wt] at hv
    have hmin : min s.length 9000 ≤ 9000 := Nat.min_le_right _ _
    have hmin2 : min s.length 9000 = s.length ∨ min s.length 9000 = 9000 := by omega
    refine bodyW cf_law11weight (Eq.refl true) fun hw => ?_
    have v9 : vmin2 (.int .i64 (s.length : Int)) (.int .i64 9000) = some (.int .i64 ((min s.length 9000 : Nat) : Int)) := vmin2_nat _ 9000
    simp -implicitDefEqProofs only [vf_law11weight, JV.enc, JV.cells, slcE, List.append_assoc, getL, getL0, setL, setL0, List.set_cons_zero, List.set_cons_succ, encL_len, encMs_len, take7a, take8a, drop7a, JV.len, take7, take9, v9, wset, tailW, tailEnd, isLenV, isOneV, vop, vbin, vbinI, vun, ↓reduceIte, Nat.reduceEqDiff, Nat.reduceAdd, vcells, vcut, cutSK, cutVK, cutNK, fillV, spl, Nat.reduceLeDiff, V.isNil, bne_self_eq_false]
    rw [wrap64 (by omega), wrap64 (by omega), show (t : Int) + (1 + ((min s.length 9000 : Nat) : Int)) = ((t + (1 + min s.length 9000) : Nat) : Int) by omega]
    refine LoopP.intro (fun n0 fr σ' => ∃ (j T : Nat) (X : List (List V)) (Y : List TypeId), j ≤ is.length ∧ n0 = is.length - j ∧ T ≤ 40000 ∧ t + j < T ∧ (T ≤ 9000 → T = t + 1 + s.length + wtL (is.take j)) ∧ fr 1 = .int .i64 (T : Int) ∧ fr 2 = .ref (some (σ.objs.length, 0)) ∧ fr 17 = .slc (ni || !(encL is).isEmpty) (encL is) .no ∧ fr 18 = .int .i64 (is.length : Int) ∧ fr 19 = .int .i64 (j : Int) ∧
      σ' = ⟨σ.objs ++ ([.int .i64 k, .bool b, .int .i64 n, .str s, slcE ni (encL is), slcE nm (encMs ms), .int .i64 a] :: X), σ.maps, σ.toks, σ.tys ++ Y, σ.tts⟩) is.length ?_ ?_
    · exact ⟨0, t + (1 + min s.length 9000), [], _, by omega, by omega, by omega, by omega, by rw [List.take_zero, wtL]; omega, rfl, rfl, rfl, rfl, rfl, rfl⟩
    rintro n0 fr σ' ⟨j, T, X, Y, hj, rfl, hT, hjT, hex, f1, f2, f17, f18, f19, rfl⟩
    simp -implicitDefEqProofs only [f1, f2, f17, f18, f19, List.append_assoc, getL, getL0, setL, setL0, List.set_cons_zero, List.set_cons_succ, encL_len, encMs_len, take7a, take8a, drop7a, JV.len, take7, take9, wset, tailW, tailEnd, isLenV, isOneV, vop, vbin, vbinI, vun, ↓reduceIte, Nat.reduceEqDiff, Nat.reduceAdd, vcells, vcut, cutSK, cutVK, cutNK, fillV, spl, Nat.reduceLeDiff, V.isNil, bne_self_eq_false]
    refine chooseK_split (fun g1 => ?_) (fun g1 => ?_) <;> simp -implicitDefEqProofs only [g1, f1, f2, f17, f18, f19, List.append_assoc, getL, getL0, setL, setL0, List.set_cons_zero, List.set_cons_succ, encL_len, encMs_len, take7a, take8a, drop7a, JV.len, take7, take9, wset, tailW, tailEnd, isLenV, isOneV, vop, vbin, vbinI, vun, ↓reduceIte, Nat.reduceEqDiff, Nat.reduceAdd, vcells, vcut, cutSK, cutVK, cutNK, fillV, spl, Nat.reduceLeDiff, V.isNil, bne_self_eq_false]
    · have hjl : j < is.length := by simp at g1; omega
      have hm := getD_mem (d := jnull) hjl
      have hwt := wtL_mem hm
      have hwk := wtL_take is j hjl
      refine ⟨by omega, encL_cells is, ?_⟩
      rw [encL_get is j hjl]
      generalize hv0 : is.getD j jnull = v0 at *
      simp -implicitDefEqProofs only [JV.enc, f1, f2, f17, f18, f19, List.append_assoc, getL, getL0, setL, setL0, List.set_cons_zero, List.set_cons_succ, encL_len, encMs_len, take7a, take8a, drop7a, JV.len, take7, take9, wset, tailW, tailEnd, isLenV, isOneV, vop, vbin, vbinI, vun, ↓reduceIte, Nat.reduceEqDiff, Nat.reduceAdd, vcells, vcut, cutSK, cutVK, cutNK, fillV, spl, Nat.reduceLeDiff, V.isNil, bne_self_eq_false]
      refine chooseK_split (fun g2 => ?_) (fun g2 => ?_) <;> simp -implicitDefEqProofs only [g2, f1, f2, f17, f18, f19, List.append_assoc, getL, getL0, setL, setL0, List.set_cons_zero, List.set_cons_succ, encL_len, encMs_len, take7a, take8a, drop7a, JV.len, take7, take9, wset, tailW, tailEnd, isLenV, isOneV, vop, vbin, vbinI, vun, ↓reduceIte, Nat.reduceEqDiff, Nat.reduceAdd, vcells, vcut, cutSK, cutVK, cutNK, fillV, spl, Nat.reduceLeDiff, V.isNil, bne_self_eq_false]
      · exact exitNew hw (by rfl) (by rfl) (h T hT (by omega) (by simp at g2; omega))
      have hT9 : T ≤ 9000 := by simp at g2; omega
      refine ih v0 (by omega) T _ _ (by omega) fun r hr htr hre => ?_
      simp -implicitDefEqProofs only [f1, f2, f17, f18, f19, List.append_assoc, getL, getL0, setL, setL0, List.set_cons_zero, List.set_cons_succ, encL_len, encMs_len, take7a, take8a, drop7a, JV.len, take7, take9, wset, tailW, tailEnd, isLenV, isOneV, vop, vbin, vbinI, vun, ↓reduceIte, Nat.reduceEqDiff, Nat.reduceAdd, vcells, vcut, cutSK, cutVK, cutNK, fillV, spl, Nat.reduceLeDiff, V.isNil, bne_self_eq_false]
      rw [wrap64 (by omega)]
      exact ⟨is.length - (j + 1), by omega, j + 1, r, _, _, by omega, rfl, hr, by omega, fun h9 => by rw [hwk, hre h9, hex hT9]; omega, rfl, f2, f17, f18, rfl, rfl⟩
    have hj2 : j = is.length := by simp at g1; omega
    rw [List.take_of_length_le (by omega)] at hex
    simp -implicitDefEqProofs only [f2, slcE, List.append_assoc, getL, getL0, setL, setL0, List.set_cons_zero, List.set_cons_succ, encL_len, encMs_len, take7a, take8a, drop7a, JV.len, take7, take9, wset, tailW, tailEnd, isLenV, isOneV, vop, vbin, vbinI, vun, ↓reduceIte, Nat.reduceEqDiff, Nat.reduceAdd, vcells, vcut, cutSK, cutVK, cutNK, fillV, spl, Nat.reduceLeDiff, V.isNil, bne_self_eq_false]
    refine LoopP.intro (fun n0 fr σ' => ∃ (j T : Nat) (X : List (List V)) (Y : List TypeId), j ≤ ms.length ∧ n0 = ms.length - j ∧ T ≤ 40000 ∧ t + j < T ∧ (T ≤ 9000 → T = t + 1 + s.length + wtL is + wtM (ms.take j)) ∧ fr 1 = .int .i64 (T : Int) ∧ fr 31 = .slc (nm || !(encMs ms).isEmpty) (encMs ms) .no ∧ fr 32 = .int .i64 (ms.length : Int) ∧ fr 33 = .int .i64 (j : Int) ∧
      σ' = ⟨σ.objs ++ X, σ.maps, σ.toks, σ.tys ++ Y, σ.tts⟩) ms.length ?_ ?_
    · exact ⟨0, T, _, _, by omega, by omega, hT, by omega, by rw [List.take_zero, wtM]; omega, f1, rfl, rfl, rfl, rfl⟩
    clear hex hjT hT f1 f2 f17 f18 f19
    rintro n0 fr σ' ⟨j, T, X, Y, hj, rfl, hT, hjT, hex, f1, f31, f32, f33, rfl⟩
    simp -implicitDefEqProofs only [f1, f31, f32, f33, List.append_assoc, getL, getL0, setL, setL0, List.set_cons_zero, List.set_cons_succ, encL_len, encMs_len, take7a, take8a, drop7a, JV.len, take7, take9, wset, tailW, tailEnd, isLenV, isOneV, vop, vbin, vbinI, vun, ↓reduceIte, Nat.reduceEqDiff, Nat.reduceAdd, vcells, vcut, cutSK, cutVK, cutNK, fillV, spl, Nat.reduceLeDiff, V.isNil, bne_self_eq_false]
    refine chooseK_split (fun g3 => ?_) (fun g3 => ?_) <;> simp -implicitDefEqProofs only [g3, f1, f31, f32, f33, List.append_assoc, getL, getL0, setL, setL0, List.set_cons_zero, List.set_cons_succ, encL_len, encMs_len, take7a, take8a, drop7a, JV.len, take7, take9, wset, tailW, tailEnd, isLenV, isOneV, vop, vbin, vbinI, vun, ↓reduceIte, Nat.reduceEqDiff, Nat.reduceAdd, vcells, vcut, cutSK, cutVK, cutNK, fillV, spl, Nat.reduceLeDiff, V.isNil, bne_self_eq_false]
    · have hjl : j < ms.length := by simp at g3; omega
      have hm := getD_mem (d := jmnull) hjl
      have hwt := wtM_mem hm
      have hwk := wtM_take ms j hjl
      refine ⟨by omega, encMs_cells ms, ?_⟩
      rw [encMs_get ms j hjl, show ms.getD j (.mk [] (jv 0 false 0 [] [] [] 0) 0) = ms.getD j jmnull from rfl]
      generalize hv0 : ms.getD j jmnull = v0 at *
      obtain ⟨x0, v0, a0⟩ := v0
      rw [JM.wt] at hwt hwk
      have hmin : min x0.length 9000 ≤ 9000 := Nat.min_le_right _ _
      have hmin2 : min x0.length 9000 = x0.length ∨ min x0.length 9000 = 9000 := by omega
      have v9 : vmin2 (.int .i64 (x0.length : Int)) (.int .i64 9000) = some (.int .i64 ((min x0.length 9000 : Nat) : Int)) := vmin2_nat _ 9000
      simp -implicitDefEqProofs only [JM.enc, JM.len, JM.cells, f1, f31, f32, f33, List.append_assoc, getL, getL0, setL, setL0, List.set_cons_zero, List.set_cons_succ, encL_len, encMs_len, take7a, take8a, drop7a, JV.len, take7, take9, wset, tailW, tailEnd, isLenV, isOneV, vop, vbin, vbinI, vun, ↓reduceIte, Nat.reduceEqDiff, Nat.reduceAdd, vcells, vcut, cutSK, cutVK, cutNK, fillV, spl, Nat.reduceLeDiff, V.isNil, bne_self_eq_false]
      refine chooseK_split (fun g4 => ?_) (fun g4 => ?_) <;> simp -implicitDefEqProofs only [g4, f1, f31, f32, f33, List.append_assoc, getL, getL0, setL, setL0, List.set_cons_zero, List.set_cons_succ, encL_len, encMs_len, take7a, take8a, drop7a, JV.len, take7, take9, v9, wset, tailW, tailEnd, isLenV, isOneV, vop, vbin, vbinI, vun, ↓reduceIte, Nat.reduceEqDiff, Nat.reduceAdd, vcells, vcut, cutSK, cutVK, cutNK, fillV, spl, Nat.reduceLeDiff, V.isNil, bne_self_eq_false]
      · exact exitNew hw (by rfl) (by rfl) (h T hT (by omega) (by simp at g4; omega))
      have hT9 : T ≤ 9000 := by simp at g4; omega
      rw [wrap64 (by omega), show (T : Int) + ((min x0.length 9000 : Nat) : Int) = ((T + min x0.length 9000 : Nat) : Int) by omega]
      refine ih v0 (by omega) (T + min x0.length 9000) _ _ (by omega) fun r hr htr hre => ?_
      simp -implicitDefEqProofs only [f1, f31, f32, f33, List.append_assoc, getL, getL0, setL, setL0, List.set_cons_zero, List.set_cons_succ, encL_len, encMs_len, take7a, take8a, drop7a, JV.len, take7, take9, wset, tailW, tailEnd, isLenV, isOneV, vop, vbin, vbinI, vun, ↓reduceIte, Nat.reduceEqDiff, Nat.reduceAdd, vcells, vcut, cutSK, cutVK, cutNK, fillV, spl, Nat.reduceLeDiff, V.isNil, bne_self_eq_false]
      rw [wrap64 (by omega)]
      exact ⟨ms.length - (j + 1), by omega, j + 1, r, _, _, by omega, rfl, hr, by omega, fun h9 => by rw [hwk, hre h9]; omega, rfl, f31, f32, rfl, rfl⟩
    have hj3 : j = ms.length := by simp at g3; omega
    rw [List.take_of_length_le (by omega)] at hex
    exact exitNew hw (by rfl) (by rfl) (h T hT (by omega) (by rw [JV.wt]; omega))

theorem tooLarge_C {v : JV} {σ : St} {Q : Out → St → Prop} (h1 : Q (.ret (.int .i64 1)) σ) (h0 : v.wt ≤ 5000 → Q (.ret (.int .i64 0)) σ) : C Xc 6 [v.enc] σ Q := by
  refine bodyW cf_law11TooLarge (Eq.refl true) fun hw => ?_
  simp -implicitDefEqProofs only [vf_law11TooLarge, JV.enc, List.append_assoc, getL, getL0, setL, setL0, List.set_cons_zero, List.set_cons_succ, encL_len, encMs_len, take7a, take8a, drop7a, JV.len, take7, take9, wset, tailW, tailEnd, isLenV, isOneV, vop, vbin, vbinI, vun, ↓reduceIte, Nat.reduceEqDiff, Nat.reduceAdd, vcells, vcut, cutSK, cutVK, cutNK, fillV, spl, Nat.reduceLeDiff, V.isNil, bne_self_eq_false]
  refine weight_C _ v (Nat.le_refl _) 0 _ _ (by omega) fun r hr _ hre => ?_
  simp -implicitDefEqProofs only [List.append_assoc, getL, getL0, setL, setL0, List.set_cons_zero, List.set_cons_succ, encL_len, encMs_len, take7a, take8a, drop7a, JV.len, take7, take9, wset, tailW, tailEnd, isLenV, isOneV, vop, vbin, vbinI, vun, ↓reduceIte, Nat.reduceEqDiff, Nat.reduceAdd, vcells, vcut, cutSK, cutVK, cutNK, fillV, spl, Nat.reduceLeDiff, V.isNil, bne_self_eq_false]
  refine chooseK_split (fun g => ?_) (fun g => ?_) <;> simp -implicitDefEqProofs only [g, List.append_assoc, getL, getL0, setL, setL0, List.set_cons_zero, List.set_cons_succ, encL_len, encMs_len, take7a, take8a, drop7a, JV.len, take7, take9, wset, tailW, tailEnd, isLenV, isOneV, vop, vbin, vbinI, vun, ↓reduceIte, Nat.reduceEqDiff, Nat.reduceAdd, vcells, vcut, cutSK, cutVK, cutNK, fillV, spl, Nat.reduceLeDiff, V.isNil, bne_self_eq_false]
  · exact exitNew hw (by rfl) (by rfl) h1
  · exact exitNew hw (by rfl) (by rfl) (h0 (by simp at g; have := hre (by omega); omega))

end Go.Proofs.YtgdcdkgmeomhpaaDoor

namespace Go.Proofs.YtgdcdkgmeomhpaaDoor
open Go Go.Vs
set_option maxRecDepth 20000
attribute [local irreducible] chooseK

def alive1 : JV := jv 5 false 0 [] [] [.mk [97] (jv 4 false 0 [] [jv 2 false 1 [] [] [] 7, jv 2 false (-20) [] [] [] 10] [] 6) 1] 0
def alive2 : JV := jv 4 false 0 [] [jv 2 false 1 [] [] [] 7, jv 2 false (-20) [] [] [] 10] [] 6
theorem c1 : alive1.cells = [.int .i64 5, .bool false, .int .i64 0, .str [], .slc false [] .no, .slc true [.agg [.str [97], .int .i64 4, .bool false, .int .i64 0, .str [], .slc true [.agg [.int .i64 2, .bool false, .int .i64 1, .str [], .slc false [] .no, .slc false [] .no, .int .i64 7], .agg [.int .i64 2, .bool false, .int .i64 (-20), .str [], .slc false [] .no, .slc false [] .no, .int .i64 10]] .no, .slc false [] .no, .int .i64 6, .int .i64 1]] .no, .int .i64 0] := by kernel_rfl
theorem c2 : alive2.cells = [.int .i64 4, .bool false, .int .i64 0, .str [], .slc true [.agg [.int .i64 2, .bool false, .int .i64 1, .str [], .slc false [] .no, .slc false [] .no, .int .i64 7], .agg [.int .i64 2, .bool false, .int .i64 (-20), .str [], .slc false [] .no, .slc false [] .no, .int .i64 10]] .no, .slc false [] .no, .int .i64 6] := by kernel_rfl
theorem parse_a1 : parseS [123, 34, 97, 34, 58, 32, 91, 49, 44, 32, 45, 50, 48, 93, 125] = .ok alive1 := by kernel_rfl
theorem parse_a2 : parseS [91, 48, 49, 93] = .error (1, 15) := by kernel_rfl
theorem parse_a3 : parseS [123, 34, 97, 34, 58, 49, 44, 34, 97, 34, 58, 50, 125] = .error (7, 10) := by kernel_rfl
theorem parse_a4 : parseS [91, 49, 44, 93] = .error (3, 7) := by kernel_rfl
theorem parseV_ok {s : List UInt8} {v : JV} (h : parseS s = .ok v) : parseV s = .tup [v.enc, .int .i64 (s.length : Int), .int .i64 0] := by rw [parseV, h]
theorem parseV_error {s : List UInt8} {x : Nat × Nat} (h : parseS s = .error x) : parseV s = .tup [jnull.enc, .int .i64 (x.1 : Int), .int .i64 (x.2 : Int)] := by rw [parseV, h]; rfl

theorem alive_C {σ : St} {Q : Out → St → Prop} (h : Q (.ret (.bool true)) σ) : C Xc 7 [] σ Q := by
  refine bodyW cf_law11alive (Eq.refl true) fun hw => ?_
  simp -implicitDefEqProofs only [vf_law11alive, wset, tailW, tailEnd, isLenV, isOneV, vop, vbin, vbinI, vun, ↓reduceIte, Nat.reduceEqDiff, Nat.reduceAdd, vcells, vcut, cutSK, cutVK, cutNK, fillV, spl, Nat.reduceLeDiff, V.isNil, bne_self_eq_false]
  refine parse_C (by decide) ?_
  rw [parseV_ok parse_a1]
  simp -implicitDefEqProofs only [JV.enc, JV.len, List.append_assoc, getL, getL0, setL, setL0, List.set_cons_zero, List.set_cons_succ, wset, tailW, tailEnd, isLenV, isOneV, vop, vbin, vbinI, vun, ↓reduceIte, Nat.reduceEqDiff, Nat.reduceAdd, vcells, vcut, cutSK, cutVK, cutNK, fillV, spl, Nat.reduceLeDiff, V.isNil, bne_self_eq_false]
  refine parse_C (by decide) ?_
  rw [parseV_error parse_a2]
  simp -implicitDefEqProofs only [JV.enc, JV.len, List.append_assoc, getL, getL0, setL, setL0, List.set_cons_zero, List.set_cons_succ, wset, tailW, tailEnd, isLenV, isOneV, vop, vbin, vbinI, vun, ↓reduceIte, Nat.reduceEqDiff, Nat.reduceAdd, vcells, vcut, cutSK, cutVK, cutNK, fillV, spl, Nat.reduceLeDiff, V.isNil, bne_self_eq_false]
  refine parse_C (by decide) ?_
  rw [parseV_error parse_a3]
  simp -implicitDefEqProofs only [JV.enc, JV.len, List.append_assoc, getL, getL0, setL, setL0, List.set_cons_zero, List.set_cons_succ, wset, tailW, tailEnd, isLenV, isOneV, vop, vbin, vbinI, vun, ↓reduceIte, Nat.reduceEqDiff, Nat.reduceAdd, vcells, vcut, cutSK, cutVK, cutNK, fillV, spl, Nat.reduceLeDiff, V.isNil, bne_self_eq_false]
  refine parse_C (by decide) ?_
  rw [parseV_error parse_a4]
  simp -implicitDefEqProofs only [JV.enc, JV.len, List.append_assoc, getL, getL0, setL, setL0, List.set_cons_zero, List.set_cons_succ, take7, wset, tailW, tailEnd, isLenV, isOneV, vop, vbin, vbinI, vun, ↓reduceIte, Nat.reduceEqDiff, Nat.reduceAdd, vcells, vcut, cutSK, cutVK, cutNK, fillV, spl, Nat.reduceLeDiff, V.isNil, bne_self_eq_false]
  refine get_C (v := alive1) (by decide) ?_
  have hg : getS alive1 [97] = some alive2 := by kernel_rfl
  rw [getV_some hg]
  have n15 : (((15 : Nat) : Int)) = 15 := rfl
  have n1 : (((1 : Nat) : Int)) = 1 := rfl
  have n2 : (((0 + 1 + 1 : Nat) : Int)) = 2 := rfl
  have n01 : (((0 + 1 : Nat) : Int)) = 1 := rfl
  have n3 : (((3 : Nat) : Int)) = 3 := rfl
  have n7 : (((7 : Nat) : Int)) = 7 := rfl
  have n10 : (((10 : Nat) : Int)) = 10 := rfl
  have q1 : (Int.toNat 0) = 0 := rfl
  have q2 : (Int.toNat 1) = 1 := rfl
  have q3 : ((0 : Int) ≤ 0) = True := by simp
  have q4 : ((0 : Int) < 1) = True := by simp
  have q5 : ((0 : Int) ≤ 1) = True := by simp
  have q6 : ((1 : Int) < 2) = True := by simp
  have b1 : ((15 : Int) != 15) = false := rfl
  have b2 : ((0 : Int) != 0) = false := rfl
  have b3 : ((1 : Int) != 1) = false := rfl
  have b4 : ((2 : Int) != 2) = false := rfl
  simp -implicitDefEqProofs only [JV.enc, JV.len, List.append_assoc, getL, getL0, setL, setL0, List.set_cons_zero, List.set_cons_succ, take7, c1, c2, b1, b2, b3, b4, Int.natCast_zero, n15, n1, n2, n01, n3, n7, n10, q1, q2, q3, q4, q5, q6, List.mem_cons, List.not_mem_nil, or_false, forall_eq_or_imp, forall_eq, beq_self_eq_true, wset, tailW, tailEnd, isLenV, isOneV, vop, vbin, vbinI, vun, ↓reduceIte, Nat.reduceEqDiff, Nat.reduceAdd, vcells, vcut, cutSK, cutVK, cutNK, fillV, spl, Nat.reduceLeDiff, V.isNil, bne_self_eq_false]
  refine depth_C _ alive1 (Nat.le_refl _) (by decide) _ _ ?_
  rw [show (alive1.depth : Int) = 3 from by kernel_rfl]
  simp -implicitDefEqProofs only [JV.enc, JV.len, List.append_assoc, getL, getL0, setL, setL0, List.set_cons_zero, List.set_cons_succ, take7, c1, c2, b1, b2, b3, b4, n15, n1, n2, n01, n3, n7, n10, beq_self_eq_true, wset, tailW, tailEnd, isLenV, isOneV, vop, vbin, vbinI, vun, ↓reduceIte, Nat.reduceEqDiff, Nat.reduceAdd, vcells, vcut, cutSK, cutVK, cutNK, fillV, spl, Nat.reduceLeDiff, V.isNil, bne_self_eq_false]
  refine strip_C _ alive1 (Nat.le_refl _) (by decide) _ _ ?_
  simp -implicitDefEqProofs only [JV.enc, JV.len, List.append_assoc, getL, getL0, setL, setL0, List.set_cons_zero, List.set_cons_succ, take7, c1, c2, wset, tailW, tailEnd, isLenV, isOneV, vop, vbin, vbinI, vun, ↓reduceIte, Nat.reduceEqDiff, Nat.reduceAdd, vcells, vcut, cutSK, cutVK, cutNK, fillV, spl, Nat.reduceLeDiff, V.isNil, bne_self_eq_false]
  refine equal_C _ alive1 (stripJ alive1) (Nat.le_refl _) (by decide) _ _ ?_
  rw [show eqJ false alive1 (stripJ alive1) = true from by kernel_rfl]
  simp -implicitDefEqProofs only [wset, tailW, tailEnd, isLenV, isOneV, vop, vbin, vbinI, vun, ↓reduceIte, Nat.reduceEqDiff, Nat.reduceAdd, vcells, vcut, cutSK, cutVK, cutNK, fillV, spl, Nat.reduceLeDiff, V.isNil, bne_self_eq_false]
  exact exitNew hw (by rfl) (by rfl) h
end Go.Proofs.YtgdcdkgmeomhpaaDoor

namespace Go.Proofs.YtgdcdkgmeomhpaaDoor
open Go Go.Vs
set_option maxRecDepth 20000
attribute [local irreducible] chooseK

theorem getS_wt {v x : JV} {key : List UInt8} (h : getS v key = some x) : x.wt ≤ v.wt := by
  obtain ⟨k, b, n, s, ni, is, nm, ms, a⟩ := v
  simp only [getS, JV.mems] at h
  split at h
  · rw [Option.map_eq_some_iff] at h
    obtain ⟨m, hm, rfl⟩ := h
    have := wtM_mem (List.mem_of_find?_eq_some hm)
    obtain ⟨x0, v0, a0⟩ := m
    rw [JM.wt] at this
    rw [JV.wt, JM.val]
    omega
  · cases h

theorem JV.mems_len (v : JV) : v.mems.length ≤ v.wt := by
  obtain ⟨k, b, n, s, ni, is, nm, ms, a⟩ := v
  have := wtM_len ms
  rw [JV.wt]
  show ms.length ≤ _
  omega

theorem law11Functions_C {v w : JV} {key : List UInt8} {σ : St} {Q : Out → St → Prop} (h : Q (.ret (.bool true)) σ) : C Xc 3 [v.enc, w.enc, .str key] σ Q := by
  have b1 : (true == true) = true := rfl
  have b2 : (false == false) = true := rfl
  have hbig : big = 4294967296 := rfl
  refine bodyW cf_law11Functions (Eq.refl true) fun hw => ?_
  simp -implicitDefEqProofs only [vf_law11Functions, JV.enc, JV.len, take7, List.append_assoc, getL, getL0, setL, setL0, List.set_cons_zero, List.set_cons_succ, wset, tailW, tailEnd, isLenV, isOneV, vop, vbin, vbinI, vun, ↓reduceIte, Nat.reduceEqDiff, Nat.reduceAdd, vcells, vcut, cutSK, cutVK, cutNK, fillV, spl, Nat.reduceLeDiff, V.isNil, bne_self_eq_false]
  refine tooLarge_C ?_ fun hv => ?_
  · simp -implicitDefEqProofs only [JV.enc, JV.len, take7, List.append_assoc, getL, getL0, setL, setL0, List.set_cons_zero, List.set_cons_succ, Int.reduceGT, wset, tailW, tailEnd, isLenV, isOneV, vop, vbin, vbinI, vun, ↓reduceIte, Nat.reduceEqDiff, Nat.reduceAdd, vcells, vcut, cutSK, cutVK, cutNK, fillV, spl, Nat.reduceLeDiff, V.isNil, bne_self_eq_false]
    refine alive_C ?_
    simp -implicitDefEqProofs only [JV.enc, JV.len, take7, List.append_assoc, getL, getL0, setL, setL0, List.set_cons_zero, List.set_cons_succ, wset, tailW, tailEnd, isLenV, isOneV, vop, vbin, vbinI, vun, ↓reduceIte, Nat.reduceEqDiff, Nat.reduceAdd, vcells, vcut, cutSK, cutVK, cutNK, fillV, spl, Nat.reduceLeDiff, V.isNil, bne_self_eq_false]
    exact exitNew hw (by rfl) (by rfl) h
  simp -implicitDefEqProofs only [JV.enc, JV.len, take7, List.append_assoc, getL, getL0, setL, setL0, List.set_cons_zero, List.set_cons_succ, Int.reduceGT, wset, tailW, tailEnd, isLenV, isOneV, vop, vbin, vbinI, vun, ↓reduceIte, Nat.reduceEqDiff, Nat.reduceAdd, vcells, vcut, cutSK, cutVK, cutNK, fillV, spl, Nat.reduceLeDiff, V.isNil, bne_self_eq_false]
  refine tooLarge_C ?_ fun hw' => ?_
  · simp -implicitDefEqProofs only [JV.enc, JV.len, take7, List.append_assoc, getL, getL0, setL, setL0, List.set_cons_zero, List.set_cons_succ, Int.reduceGT, wset, tailW, tailEnd, isLenV, isOneV, vop, vbin, vbinI, vun, ↓reduceIte, Nat.reduceEqDiff, Nat.reduceAdd, vcells, vcut, cutSK, cutVK, cutNK, fillV, spl, Nat.reduceLeDiff, V.isNil, bne_self_eq_false]
    refine alive_C ?_
    simp -implicitDefEqProofs only [JV.enc, JV.len, take7, List.append_assoc, getL, getL0, setL, setL0, List.set_cons_zero, List.set_cons_succ, wset, tailW, tailEnd, isLenV, isOneV, vop, vbin, vbinI, vun, ↓reduceIte, Nat.reduceEqDiff, Nat.reduceAdd, vcells, vcut, cutSK, cutVK, cutNK, fillV, spl, Nat.reduceLeDiff, V.isNil, bne_self_eq_false]
    exact exitNew hw (by rfl) (by rfl) h
  simp -implicitDefEqProofs only [JV.enc, JV.len, take7, List.append_assoc, getL, getL0, setL, setL0, List.set_cons_zero, List.set_cons_succ, Int.reduceGT, wset, tailW, tailEnd, isLenV, isOneV, vop, vbin, vbinI, vun, ↓reduceIte, Nat.reduceEqDiff, Nat.reduceAdd, vcells, vcut, cutSK, cutVK, cutNK, fillV, spl, Nat.reduceLeDiff, V.isNil, bne_self_eq_false]
  have hml := v.mems_len
  refine get_C (by omega) ?_
  cases hgs : getS v key with
  | none =>
    have hg := getV_none hgs
    rw [hg]
    have hx : jnull.wt ≤ 1 := by decide
    simp -implicitDefEqProofs only [JV.enc, JV.len, take7, List.append_assoc, getL, getL0, setL, setL0, List.set_cons_zero, List.set_cons_succ, wset, tailW, tailEnd, isLenV, isOneV, vop, vbin, vbinI, vun, ↓reduceIte, Nat.reduceEqDiff, Nat.reduceAdd, vcells, vcut, cutSK, cutVK, cutNK, fillV, spl, Nat.reduceLeDiff, V.isNil, bne_self_eq_false]
    refine refGet_C (by omega) ?_
    rw [hg]
    simp -implicitDefEqProofs only [JV.enc, JV.len, take7, List.append_assoc, getL, getL0, setL, setL0, List.set_cons_zero, List.set_cons_succ, wset, tailW, tailEnd, isLenV, isOneV, vop, vbin, vbinI, vun, ↓reduceIte, Nat.reduceEqDiff, Nat.reduceAdd, vcells, vcut, cutSK, cutVK, cutNK, fillV, spl, Nat.reduceLeDiff, V.isNil, bne_self_eq_false]
    refine strip_C _ v (Nat.le_refl _) (by omega) _ _ ?_
    simp -implicitDefEqProofs only [JV.enc, JV.len, take7, List.append_assoc, getL, getL0, setL, setL0, List.set_cons_zero, List.set_cons_succ, wset, tailW, tailEnd, isLenV, isOneV, vop, vbin, vbinI, vun, ↓reduceIte, Nat.reduceEqDiff, Nat.reduceAdd, vcells, vcut, cutSK, cutVK, cutNK, fillV, spl, Nat.reduceLeDiff, V.isNil, bne_self_eq_false]
    refine alive_C ?_
    simp -implicitDefEqProofs only [JV.enc, JV.len, take7, List.append_assoc, getL, getL0, setL, setL0, List.set_cons_zero, List.set_cons_succ, b1, b2, wset, tailW, tailEnd, isLenV, isOneV, vop, vbin, vbinI, vun, ↓reduceIte, Nat.reduceEqDiff, Nat.reduceAdd, vcells, vcut, cutSK, cutVK, cutNK, fillV, spl, Nat.reduceLeDiff, V.isNil, bne_self_eq_false]
    refine refEqual_C true _ jnull jnull (Nat.le_refl _) (by omega) _ _ ?_
    rw [eqJ_refl]
    simp -implicitDefEqProofs only [JV.enc, JV.len, take7, List.append_assoc, getL, getL0, setL, setL0, List.set_cons_zero, List.set_cons_succ, wset, tailW, tailEnd, isLenV, isOneV, vop, vbin, vbinI, vun, ↓reduceIte, Nat.reduceEqDiff, Nat.reduceAdd, vcells, vcut, cutSK, cutVK, cutNK, fillV, spl, Nat.reduceLeDiff, V.isNil, bne_self_eq_false]
    refine depth_C _ v (Nat.le_refl _) (by omega) _ _ ?_
    simp -implicitDefEqProofs only [JV.enc, JV.len, take7, List.append_assoc, getL, getL0, setL, setL0, List.set_cons_zero, List.set_cons_succ, wset, tailW, tailEnd, isLenV, isOneV, vop, vbin, vbinI, vun, ↓reduceIte, Nat.reduceEqDiff, Nat.reduceAdd, vcells, vcut, cutSK, cutVK, cutNK, fillV, spl, Nat.reduceLeDiff, V.isNil, bne_self_eq_false]
    refine refDepth_C _ v (Nat.le_refl _) (by omega) _ _ ?_
    simp -implicitDefEqProofs only [JV.enc, JV.len, take7, List.append_assoc, getL, getL0, setL, setL0, List.set_cons_zero, List.set_cons_succ, beq_self_eq_true, wset, tailW, tailEnd, isLenV, isOneV, vop, vbin, vbinI, vun, ↓reduceIte, Nat.reduceEqDiff, Nat.reduceAdd, vcells, vcut, cutSK, cutVK, cutNK, fillV, spl, Nat.reduceLeDiff, V.isNil, bne_self_eq_false]
    refine equal_C _ v w (Nat.le_refl _) (by omega) _ _ ?_
    simp -implicitDefEqProofs only [JV.enc, JV.len, take7, List.append_assoc, getL, getL0, setL, setL0, List.set_cons_zero, List.set_cons_succ, wset, tailW, tailEnd, isLenV, isOneV, vop, vbin, vbinI, vun, ↓reduceIte, Nat.reduceEqDiff, Nat.reduceAdd, vcells, vcut, cutSK, cutVK, cutNK, fillV, spl, Nat.reduceLeDiff, V.isNil, bne_self_eq_false]
    refine refEqual_C false _ v w (Nat.le_refl _) (by omega) _ _ ?_
    simp -implicitDefEqProofs only [JV.enc, JV.len, take7, List.append_assoc, getL, getL0, setL, setL0, List.set_cons_zero, List.set_cons_succ, beq_self_eq_true, wset, tailW, tailEnd, isLenV, isOneV, vop, vbin, vbinI, vun, ↓reduceIte, Nat.reduceEqDiff, Nat.reduceAdd, vcells, vcut, cutSK, cutVK, cutNK, fillV, spl, Nat.reduceLeDiff, V.isNil, bne_self_eq_false]
    refine refEqual_C false _ v (stripJ v) (Nat.le_refl _) (by omega) _ _ ?_
    rw [eqJ_strip]
    simp -implicitDefEqProofs only [JV.enc, JV.len, take7, List.append_assoc, getL, getL0, setL, setL0, List.set_cons_zero, List.set_cons_succ, wset, tailW, tailEnd, isLenV, isOneV, vop, vbin, vbinI, vun, ↓reduceIte, Nat.reduceEqDiff, Nat.reduceAdd, vcells, vcut, cutSK, cutVK, cutNK, fillV, spl, Nat.reduceLeDiff, V.isNil, bne_self_eq_false]
    refine zero_C _ (stripJ v) (Nat.le_refl _) (by rw [wt_strip]; omega) (zeroJ_strip v) _ _ ?_
    simp -implicitDefEqProofs only [JV.enc, JV.len, take7, List.append_assoc, getL, getL0, setL, setL0, List.set_cons_zero, List.set_cons_succ, beq_self_eq_true, wset, tailW, tailEnd, isLenV, isOneV, vop, vbin, vbinI, vun, ↓reduceIte, Nat.reduceEqDiff, Nat.reduceAdd, vcells, vcut, cutSK, cutVK, cutNK, fillV, spl, Nat.reduceLeDiff, V.isNil, bne_self_eq_false]
    exact exitNew hw (by rfl) (by rfl) h
  | some x =>
    have hg := getV_some hgs
    rw [hg]
    have hx := getS_wt hgs
    simp -implicitDefEqProofs only [JV.enc, JV.len, take7, List.append_assoc, getL, getL0, setL, setL0, List.set_cons_zero, List.set_cons_succ, wset, tailW, tailEnd, isLenV, isOneV, vop, vbin, vbinI, vun, ↓reduceIte, Nat.reduceEqDiff, Nat.reduceAdd, vcells, vcut, cutSK, cutVK, cutNK, fillV, spl, Nat.reduceLeDiff, V.isNil, bne_self_eq_false]
    refine refGet_C (by omega) ?_
    rw [hg]
    simp -implicitDefEqProofs only [JV.enc, JV.len, take7, List.append_assoc, getL, getL0, setL, setL0, List.set_cons_zero, List.set_cons_succ, wset, tailW, tailEnd, isLenV, isOneV, vop, vbin, vbinI, vun, ↓reduceIte, Nat.reduceEqDiff, Nat.reduceAdd, vcells, vcut, cutSK, cutVK, cutNK, fillV, spl, Nat.reduceLeDiff, V.isNil, bne_self_eq_false]
    refine strip_C _ v (Nat.le_refl _) (by omega) _ _ ?_
    simp -implicitDefEqProofs only [JV.enc, JV.len, take7, List.append_assoc, getL, getL0, setL, setL0, List.set_cons_zero, List.set_cons_succ, wset, tailW, tailEnd, isLenV, isOneV, vop, vbin, vbinI, vun, ↓reduceIte, Nat.reduceEqDiff, Nat.reduceAdd, vcells, vcut, cutSK, cutVK, cutNK, fillV, spl, Nat.reduceLeDiff, V.isNil, bne_self_eq_false]
    refine alive_C ?_
    simp -implicitDefEqProofs only [JV.enc, JV.len, take7, List.append_assoc, getL, getL0, setL, setL0, List.set_cons_zero, List.set_cons_succ, b1, b2, wset, tailW, tailEnd, isLenV, isOneV, vop, vbin, vbinI, vun, ↓reduceIte, Nat.reduceEqDiff, Nat.reduceAdd, vcells, vcut, cutSK, cutVK, cutNK, fillV, spl, Nat.reduceLeDiff, V.isNil, bne_self_eq_false]
    refine refEqual_C true _ x x (Nat.le_refl _) (by omega) _ _ ?_
    rw [eqJ_refl]
    simp -implicitDefEqProofs only [JV.enc, JV.len, take7, List.append_assoc, getL, getL0, setL, setL0, List.set_cons_zero, List.set_cons_succ, wset, tailW, tailEnd, isLenV, isOneV, vop, vbin, vbinI, vun, ↓reduceIte, Nat.reduceEqDiff, Nat.reduceAdd, vcells, vcut, cutSK, cutVK, cutNK, fillV, spl, Nat.reduceLeDiff, V.isNil, bne_self_eq_false]
    refine depth_C _ v (Nat.le_refl _) (by omega) _ _ ?_
    simp -implicitDefEqProofs only [JV.enc, JV.len, take7, List.append_assoc, getL, getL0, setL, setL0, List.set_cons_zero, List.set_cons_succ, wset, tailW, tailEnd, isLenV, isOneV, vop, vbin, vbinI, vun, ↓reduceIte, Nat.reduceEqDiff, Nat.reduceAdd, vcells, vcut, cutSK, cutVK, cutNK, fillV, spl, Nat.reduceLeDiff, V.isNil, bne_self_eq_false]
    refine refDepth_C _ v (Nat.le_refl _) (by omega) _ _ ?_
    simp -implicitDefEqProofs only [JV.enc, JV.len, take7, List.append_assoc, getL, getL0, setL, setL0, List.set_cons_zero, List.set_cons_succ, beq_self_eq_true, wset, tailW, tailEnd, isLenV, isOneV, vop, vbin, vbinI, vun, ↓reduceIte, Nat.reduceEqDiff, Nat.reduceAdd, vcells, vcut, cutSK, cutVK, cutNK, fillV, spl, Nat.reduceLeDiff, V.isNil, bne_self_eq_false]
    refine equal_C _ v w (Nat.le_refl _) (by omega) _ _ ?_
    simp -implicitDefEqProofs only [JV.enc, JV.len, take7, List.append_assoc, getL, getL0, setL, setL0, List.set_cons_zero, List.set_cons_succ, wset, tailW, tailEnd, isLenV, isOneV, vop, vbin, vbinI, vun, ↓reduceIte, Nat.reduceEqDiff, Nat.reduceAdd, vcells, vcut, cutSK, cutVK, cutNK, fillV, spl, Nat.reduceLeDiff, V.isNil, bne_self_eq_false]
    refine refEqual_C false _ v w (Nat.le_refl _) (by omega) _ _ ?_
    simp -implicitDefEqProofs only [JV.enc, JV.len, take7, List.append_assoc, getL, getL0, setL, setL0, List.set_cons_zero, List.set_cons_succ, beq_self_eq_true, wset, tailW, tailEnd, isLenV, isOneV, vop, vbin, vbinI, vun, ↓reduceIte, Nat.reduceEqDiff, Nat.reduceAdd, vcells, vcut, cutSK, cutVK, cutNK, fillV, spl, Nat.reduceLeDiff, V.isNil, bne_self_eq_false]
    refine refEqual_C false _ v (stripJ v) (Nat.le_refl _) (by omega) _ _ ?_
    rw [eqJ_strip]
    simp -implicitDefEqProofs only [JV.enc, JV.len, take7, List.append_assoc, getL, getL0, setL, setL0, List.set_cons_zero, List.set_cons_succ, wset, tailW, tailEnd, isLenV, isOneV, vop, vbin, vbinI, vun, ↓reduceIte, Nat.reduceEqDiff, Nat.reduceAdd, vcells, vcut, cutSK, cutVK, cutNK, fillV, spl, Nat.reduceLeDiff, V.isNil, bne_self_eq_false]
    refine zero_C _ (stripJ v) (Nat.le_refl _) (by rw [wt_strip]; omega) (zeroJ_strip v) _ _ ?_
    simp -implicitDefEqProofs only [JV.enc, JV.len, take7, List.append_assoc, getL, getL0, setL, setL0, List.set_cons_zero, List.set_cons_succ, beq_self_eq_true, wset, tailW, tailEnd, isLenV, isOneV, vop, vbin, vbinI, vun, ↓reduceIte, Nat.reduceEqDiff, Nat.reduceAdd, vcells, vcut, cutSK, cutVK, cutNK, fillV, spl, Nat.reduceLeDiff, V.isNil, bne_self_eq_false]
    exact exitNew hw (by rfl) (by rfl) h
end Go.Proofs.YtgdcdkgmeomhpaaDoor

namespace Go.Proofs.YtgdcdkgmeomhpaaDoor
open Go Go.Vs Go.RowKit Go.ChangeShapes

/-- How many cells a block has. -/
def prOf (w : World) (b : Nat) : Nat := match w.heap[b]? with
  | some (.cells c _ _) => c.size
  | _ => 0
/-- The memory at the start: nothing of it is the abstract store's. -/
def mem0 (G : List (Nat × List V)) (w : World) : Mem := ⟨w.heap.size, G, 0, fun _ => 0, 0, fun _ => 0, prOf w, fun _ => (0, 0, 0), [], fun _ => 0⟩
def st0 : St := ⟨[], [], [], [], []⟩

def GOk (w : World) (G : List (Nat × List V)) : Prop :=
  ∀ (g : Nat) (cs : List V), (g, cs) ∈ G → g < w.heap.size ∧ ∃ us, RVs (mem0 G w) w cs us ∧ w.rangeAt g 0 us ∧ us.length ≤ prOf w g ∧ ∀ u ∈ us, u.oneCell' = true

theorem rel0 {G : List (Nat × List V)} {w : World} (h : GOk w G) : Rel (mem0 G w) st0 w where
  n := rfl
  nm := rfl
  tl := rfl
  base := Nat.le_refl _
  past b hb := by show prOf w b = 0; rw [prOf, Array.getElem?_eq_none hb]
  glob := h
  obj o cs ho := by cases ho
  inj o o' ho := by cases ho
  map r es hr := by cases hr
  minj r r' hr := by cases hr
  tok t ht := by cases ht
  tinj t t' ht := by cases ht
  mo r o hr := by cases hr
  mt r t hr := by cases hr
  tys := rfl
  ty o e ho := by cases ho
  tts := rfl
  tt i e hi := by cases hi

/-- The law's call, out of its contract. -/
theorem law_calls {X : Ctx} {f : FuncId} {args : List V} {us : List Value} {W : World} (hC : C X f args st0 fun o _ => o = .ret (.bool true)) (hG : GOk W X.G) (hus : RVs (mem0 X.G W) W args us) :
    Calls X.P f us.toArray W fun e W' => e = .returned (.bool true) ∧ Below W.heap.size W W' := by
  refine (hC.2 (mem0 X.G W) W us rfl (rel0 hG) hus).mono fun e W' ⟨μ', σ', out, hq, hev, _, ho⟩ => ?_
  subst hq
  obtain ⟨u, hu, rfl⟩ := ho
  cases hu
  exact ⟨rfl, hev.os, hev.tape, hev.output, hev.size, hev.old⟩

section
variable {P : Program} {w : World} {G : List (Nat × List V)}

theorem var_block {n : String} {g : Nat} {cs : Array Value} (hg : P.globalNamed n = some g) (h : w.var? P n = some cs) : ∃ t fz, w.heap[g]? = some (.cells cs t fz) := by
  simp only [World.var?, hg, Option.bind_some] at h
  split at h
  · rename_i c t fz hh
    cases h
    exact ⟨t, fz, hh⟩
  · cases h

theorem gfact {n : String} {g : Nat} {cs : Array Value} {vs : List V} (hg : P.globalNamed n = some g) (h : w.var? P n = some cs) (hr : RVs (mem0 G w) w vs cs.toList) (h1 : ∀ u ∈ cs.toList, u.oneCell' = true) :
    g < w.heap.size ∧ ∃ us, RVs (mem0 G w) w vs us ∧ w.rangeAt g 0 us ∧ us.length ≤ prOf w g ∧ ∀ u ∈ us, u.oneCell' = true := by
  obtain ⟨t, fz, hb⟩ := var_block hg h
  refine ⟨(Array.getElem?_eq_some_iff.1 hb).1, cs.toList, hr, fun j v hv => ?_, ?_, h1⟩
  · rw [World.var?_cell hg h, Nat.zero_add]
    simpa using hv
  · rw [prOf, hb]; simp

theorem rvs8 (l : List Nat) : RVs (mem0 G w) w (cells8 l) (l.map fun (n : Nat) => Value.int .u8 (n : Int)) := by
  refine ⟨by simp [cells8], fun i hi => ?_⟩
  have hi' : i < l.length := by simpa [cells8] using hi
  have e1 : (cells8 l).getD i .und = .int .u8 (l[i] : Int) := by simp [cells8, List.getD_eq_getElem?_getD, List.getElem?_eq_getElem hi']
  have e2 : (l.map fun (n : Nat) => Value.int .u8 (n : Int)).getD i undef = .int .u8 (l[i] : Int) := by simp [List.getD_eq_getElem?_getD, List.getElem?_eq_getElem hi']
  rw [e1, e2]
  exact .int _ _

theorem gfact8 {n : String} {g : Nat} {cs : Array Value} {l : List Nat} (hg : P.globalNamed n = some g) (h : w.var? P n = some cs) (e : cs.toList = l.map fun (n : Nat) => Value.int .u8 (n : Int)) :
    g < w.heap.size ∧ ∃ us, RVs (mem0 G w) w (cells8 l) us ∧ w.rangeAt g 0 us ∧ us.length ≤ prOf w g ∧ ∀ u ∈ us, u.oneCell' = true :=
  gfact hg h (by rw [e]; exact rvs8 l) (by rw [e]; intro u hu; obtain ⟨n, _, rfl⟩ := List.mem_map.1 hu; rfl)

theorem of_chunks {α : Type} (k : Nat) : ∀ (L : List (List α)) (cs : List α), cs.length = L.length * k → (∀ i, i < L.length → (cs.drop (i * k)).take k = L.getD i []) → cs = L.flatten
  | [], cs, hl, _ => by simpa using hl
  | c :: r, cs, hl, h => by
    have h0 := h 0 (by simp)
    simp only [Nat.zero_mul, List.drop_zero, List.getD_cons_zero] at h0
    have hr := of_chunks k r (cs.drop k) (by simp only [List.length_drop, hl, List.length_cons, Nat.succ_mul]; omega) fun i hi => by
      have := h (i + 1) (by simpa using hi)
      rw [List.getD_cons_succ, Nat.succ_mul] at this
      rw [List.drop_drop, Nat.add_comm]
      exact this
    rw [List.flatten_cons, ← hr, ← h0, List.take_append_drop]

/-- An array of arrays or of structs of bytes. -/
theorem chunks_of {fuel : Nat} {t e : TypeId} {n k : Nat} {cs : List Value} {L : List (List Nat)} {p : List MemPlace} (ht : P.underlying t = some (.array n e)) (hce : P.cellsOf e = k) (hL : L.length = n) (hct : P.cellsOf t = n * k)
    (he : ∀ (fuel : Nat) (cs : List Value) (l : List Nat) (q : List MemPlace), DataW.trod (fun _ => ()) P w 0 (fun _ => true) false fuel e cs = some (.agg ((l.map fun (x : Nat) => (x : Int)).map fun z => .lit (.int .u8 z)), q) → cs = l.map fun (x : Nat) => Value.int .u8 (x : Int))
    (h : DataW.trod (fun _ => ()) P w 0 (fun _ => true) false fuel t cs = some (.agg (L.map fun l => .agg ((l.map fun (x : Nat) => (x : Int)).map fun z => .lit (.int .u8 z))), p)) :
    cs = L.flatten.map fun (x : Nat) => Value.int .u8 (x : Int) := by
  have hlen : cs.length = n * k := by
    cases fuel with
    | zero => simp [DataW.trod] at h
    | succ fuel =>
      simp only [DataW.trod, ht] at h
      split at h
      · rename_i hl; rw [hl, hct]
      · cases h
  rw [List.map_flatten]
  refine of_chunks k _ cs (by simp [hL, hlen]) fun i hi => ?_
  have hi' : i < n := by simpa [hL] using hi
  obtain ⟨fuel', d, q, hdi, hd⟩ := Lib.array_elem ht h i hi'
  have hiL : i < L.length := by omega
  simp only [List.getElem?_map, List.getElem?_eq_getElem hiL, Option.map_some, Option.some.injEq] at hdi
  subst hdi
  rw [hce] at hd
  rw [he _ _ _ _ hd]
  simp [List.getD_eq_getElem?_getD, List.getElem?_eq_getElem hiL]

/-- An error that is listed. -/
theorem gfact_err {n : String} {g : Nat} {t : TypeId} {cs : Array Value} {a : Addr} {s : ByteArray} (hg : P.globalNamed n = some g) (h : w.var? P n = some cs) (e : cs.toList = [.iface t (.pointer (some a))]) (hc : w.cell? a = some (.string s)) :
    g < w.heap.size ∧ ∃ us, RVs (mem0 G w) w [.iface t (.eptr [])] us ∧ w.rangeAt g 0 us ∧ us.length ≤ prOf w g ∧ ∀ u ∈ us, u.oneCell' = true := by
  have hs := World.cell?_spot hc
  obtain ⟨b, off, sp⟩ := a
  simp only at hs
  subst hs
  refine gfact hg h ?_ (by rw [e]; intro u hu; rw [List.mem_singleton.1 hu]; rfl)
  rw [e]
  refine ⟨rfl, fun i hi => ?_⟩
  simp only [List.length_cons, List.length_nil] at hi
  obtain rfl : i = 0 := by omega
  simp only [List.getD_cons_zero]
  refine .iface _ _ _ (.eptr [] [] b off rfl (fun j v hv => by simp at hv) ?_ (fun u hu => by cases hu) fun i hi => by cases hi)
  show off + 0 ≤ prOf w b
  simp only [World.cell?] at hc
  split at hc
  · rename_i c t' fz hb
    simp only [Option.isSome_none, Bool.false_eq_true, if_false] at hc
    have := (Array.getElem?_eq_some_iff.1 hc).1
    have e : prOf w b = c.size := by rw [prOf, hb]
    omega
  · cases hc
end
end Go.Proofs.YtgdcdkgmeomhpaaDoor

namespace Go.Proofs.YtgdcdkgmeomhpaaDoor
open Go Go.Vs Go.RowKit Go.ChangeShapes
set_option maxRecDepth 100000

noncomputable abbrev PP : Program := Go.Proofs.Tryd.prog

theorem p_letters : PP.globalNamed "feedvault/jsonstring.letters" = some 1 := by kernel_rfl
theorem p_first : PP.globalNamed "unicode/utf8.first" = some 4 := by kernel_rfl
theorem p_accept : PP.globalNamed "unicode/utf8.acceptRanges" = some 5 := by kernel_rfl
theorem p_syntax : PP.globalNamed "strconv.ErrSyntax" = some 2 := by kernel_rfl
theorem p_range : PP.globalNamed "strconv.ErrRange" = some 3 := by kernel_rfl
theorem y_letters : (PP.globals[1]?).map (·.type) = some 109 := by kernel_rfl
theorem y_first : (PP.globals[4]?).map (·.type) = some 128 := by kernel_rfl
theorem y_accept : (PP.globals[5]?).map (·.type) = some 131 := by kernel_rfl
theorem y_syntax : (PP.globals[2]?).map (·.type) = some 66 := by kernel_rfl
theorem y_range : (PP.globals[3]?).map (·.type) = some 66 := by kernel_rfl
theorem u_u8 : PP.underlying 5 = some (.int .u8) := by kernel_rfl
theorem u_letters : PP.underlying 109 = some (.array 5 108) := by kernel_rfl
theorem u_pair : PP.underlying 108 = some (.array 2 5) := by kernel_rfl
theorem u_first : PP.underlying 128 = some (.array 256 5) := by kernel_rfl
theorem u_accepts : PP.underlying 131 = some (.array 16 130) := by kernel_rfl
theorem c_u8 : PP.cellsOf 5 = 1 := by kernel_rfl
theorem c_pair : PP.cellsOf 108 = 2 := by kernel_rfl
theorem c_letters : PP.cellsOf 109 = 10 := by kernel_rfl
theorem c_first : PP.cellsOf 128 = 256 := by kernel_rfl
theorem c_accept : PP.cellsOf 130 = 2 := by kernel_rfl
theorem c_accepts : PP.cellsOf 131 = 32 := by kernel_rfl
theorem c_errS : PP.cellsOf 137 = 1 := by kernel_rfl
theorem c_str : PP.cellsOf 9 = 1 := by kernel_rfl
theorem u_str : PP.underlying 9 = some .string := by kernel_rfl
theorem u_bool : PP.underlying 4 = some .bool := by kernel_rfl
theorem u_bytes : PP.underlying 34 = some (.slice 5) := by kernel_rfl
theorem u_pErr : PP.underlying 135 = some (.pointer 137) := by kernel_rfl
theorem star : "*" ++ "errors.errorString" = "*errors.errorString" := by decide
theorem rowErr (u : TypeId) (h : PP.typeName? 3 u = some "*errors.errorString") : u = 135 :=
  typeName_ptr_named (nm := "errors.errorString") (by rw [star]; kernel_rfl) (by kernel_rfl) (by decide) u (by rw [star]; exact h)

def pairs : List (List Nat) := [[98, 8], [102, 12], [110, 10], [114, 13], [116, 9]]
def ranges : List (List Nat) := [[128, 191], [160, 191], [128, 159], [144, 191], [128, 143], [0, 0], [0, 0], [0, 0], [0, 0], [0, 0], [0, 0], [0, 0], [0, 0], [0, 0], [0, 0], [0, 0]]
theorem pairs_flat : pairs.flatten = lettersN := by rfl
theorem ranges_flat : ranges.flatten = acceptN := by rfl

section
variable {w : World}
theorem pair_cells (fuel : Nat) (cs : List Value) (l : List Nat) (q : List MemPlace) (h : DataW.trod (fun _ => ()) PP w 0 (fun _ => true) false fuel 108 cs = some (.agg ((l.map fun (x : Nat) => (x : Int)).map fun z => .lit (.int .u8 z)), q)) : cs = l.map fun (x : Nat) => Value.int .u8 (x : Int) := by
  rw [Lib.cells_of_tab u_pair u_u8 c_u8 c_pair h, List.map_map]
  rfl
theorem accept_cells (fuel : Nat) (cs : List Value) (l : List Nat) (q : List MemPlace) (h : DataW.trod (fun _ => ()) PP w 0 (fun _ => true) false fuel 130 cs = some (.agg ((l.map fun (x : Nat) => (x : Int)).map fun z => .lit (.int .u8 z)), q)) : cs = l.map fun (x : Nat) => Value.int .u8 (x : Int) := by
  obtain ⟨fs, hu, hf, hs⟩ : ∃ fs, PP.underlying 130 = some (.struct fs) ∧ (∀ (i : Nat) (f : Field), fs[i]? = some f → PP.underlying f.type = some (.int .u8) ∧ f.offset = i ∧ PP.cellsOf f.type = 1) ∧ PP.cellsOf 130 = fs.size :=
    ⟨#[⟨"lo", 5, 0, false, "", "unicode/utf8", 0⟩, ⟨"hi", 5, 1, false, "", "unicode/utf8", 1⟩], by kernel_rfl, fun i f h => by
      match i, h with
      | 0, h => simp at h; subst h; exact ⟨u_u8, rfl, c_u8⟩
      | 1, h => simp at h; subst h; exact ⟨u_u8, rfl, c_u8⟩
      | i + 2, h => simp at h, c_accept⟩
  rw [Lib.ints_of_struct hu hf hs h, List.map_map]
  rfl

theorem g_letters_ok {G : List (Nat × List V)} (h : Lib.VarReads PP w "feedvault/jsonstring.letters" Rows.laid_feedvault_jsonstring_letters) :
    1 < w.heap.size ∧ ∃ us, RVs (mem0 G w) w (cells8 lettersN) us ∧ w.rangeAt 1 0 us ∧ us.length ≤ prOf w 1 ∧ ∀ u ∈ us, u.oneCell' = true := by
  obtain ⟨g, t, cs, fuel, p, hg, ht, hv, hd⟩ := h
  obtain rfl := Option.some.inj (p_letters.symm.trans hg)
  obtain rfl := Option.some.inj (y_letters.symm.trans ht)
  have hd' : DataW.trod (fun _ => ()) PP w 0 (fun _ => true) false fuel 109 cs.toList = some (.agg (pairs.map fun l => .agg ((l.map fun (x : Nat) => (x : Int)).map fun z => .lit (.int .u8 z))), p) := hd
  exact gfact8 hg hv (by rw [← pairs_flat]; exact chunks_of u_letters c_pair rfl c_letters pair_cells hd')
theorem g_accept_ok {G : List (Nat × List V)} (h : Lib.VarReads PP w "unicode/utf8.acceptRanges" Rows.laid_unicode_utf8_acceptRanges) :
    5 < w.heap.size ∧ ∃ us, RVs (mem0 G w) w (cells8 acceptN) us ∧ w.rangeAt 5 0 us ∧ us.length ≤ prOf w 5 ∧ ∀ u ∈ us, u.oneCell' = true := by
  obtain ⟨g, t, cs, fuel, p, hg, ht, hv, hd⟩ := h
  obtain rfl := Option.some.inj (p_accept.symm.trans hg)
  obtain rfl := Option.some.inj (y_accept.symm.trans ht)
  have hd' : DataW.trod (fun _ => ()) PP w 0 (fun _ => true) false fuel 131 cs.toList = some (.agg (ranges.map fun l => .agg ((l.map fun (x : Nat) => (x : Int)).map fun z => .lit (.int .u8 z))), p) := hd
  exact gfact8 hg hv (by rw [← ranges_flat]; exact chunks_of u_accepts c_accept rfl c_accepts accept_cells hd')
theorem first_data : (Rows.laid_unicode_utf8_first : DataW Unit) = Lib.tabData .u8 (firstN.map fun (x : Nat) => (x : Int)) := by kernel_rfl
theorem g_first_ok {G : List (Nat × List V)} (h : Lib.VarReads PP w "unicode/utf8.first" Rows.laid_unicode_utf8_first) :
    4 < w.heap.size ∧ ∃ us, RVs (mem0 G w) w (cells8 firstN) us ∧ w.rangeAt 4 0 us ∧ us.length ≤ prOf w 4 ∧ ∀ u ∈ us, u.oneCell' = true := by
  rw [first_data] at h
  obtain ⟨g, t, cs, fuel, p, hg, ht, hv, hd⟩ := h
  obtain rfl := Option.some.inj (p_first.symm.trans hg)
  obtain rfl := Option.some.inj (y_first.symm.trans ht)
  exact gfact8 hg hv (by rw [Lib.cells_of_tab u_first u_u8 c_u8 c_first hd, List.map_map]; rfl)

theorem g_err_ok {G : List (Nat × List V)} {n : String} {g : Nat} {text : List UInt8} (hn : PP.globalNamed n = some g) (hy : (PP.globals[g]?).map (·.type) = some 66)
    (h : Lib.VarReads PP w n (.iface "*errors.errorString" (.ptr (.agg [.lit (.string text)])))) (hok : ∀ cs : Array Value, w.var? PP n = some cs → ∀ u v, cs.toList = [.iface u v] → Value.okWide PP w .any 0 u v) :
    g < w.heap.size ∧ ∃ us, RVs (mem0 G w) w [.iface 135 (.eptr [])] us ∧ w.rangeAt g 0 us ∧ us.length ≤ prOf w g ∧ ∀ u ∈ us, u.oneCell' = true := by
  obtain ⟨g', t, cs, fuel, p, hg, ht, hv, hd⟩ := h
  obtain rfl := Option.some.inj (hn.symm.trans hg)
  obtain rfl := Option.some.inj (hy.symm.trans ht)
  obtain ⟨ms, hms⟩ : ∃ ms, PP.underlying 66 = some (.interface ms) := by
    have : (match PP.underlying 66 with | some (.interface _) => true | _ => false) = true := by kernel_rfl
    split at this
    · rename_i ms hms; exact ⟨ms, hms⟩
    · cases this
  obtain ⟨f, hft, h1, h2⟩ : ∃ f, PP.underlying 137 = some (.struct #[f]) ∧ f.type = 9 ∧ f.offset = 0 := ⟨⟨"s", 9, 0, false, "", "errors", 0⟩, by kernel_rfl, rfl, rfl⟩
  obtain ⟨a, s, hcs, hc, _⟩ := errorString_of_trod hms rowErr u_pErr hft h1 h2 u_str c_errS c_str hd fun u v e => hok cs hv u v e
  exact gfact_err hg hv hcs hc

theorem laid_place {P : Program} {w : World} : ∀ {l : List (String × DataW Unit)} {ps : List MemPlace} {n : String} {d : DataW Unit} {g : Nat} {cs : Array Value} {i : Nat}, DataW.LaidVars P w l ps → (n, d) ∈ l → P.globalNamed n = some g → w.var? P n = some cs → i < cs.size → MemPlace.cell g i ∈ ps
  | [], _, _, _, _, _, _, _, hm, _, _, _ => by cases hm
  | (n', d') :: r, ps, n, d, g, cs, i, h, hm, hg, hv, hi => by
    obtain ⟨g', t', cs', fuel, p, q, h1, h2, h3, h4, h5, rfl⟩ := h
    rcases List.mem_cons.1 hm with e | e
    · cases e
      obtain rfl := Option.some.inj (hg.symm.trans h1)
      obtain rfl := Option.some.inj (hv.symm.trans h3)
      exact List.mem_append_left _ (List.mem_append_left _ (List.mem_map.2 ⟨i, List.mem_range.2 hi, by simp⟩))
    · exact List.mem_append_right _ (laid_place h5 e hg hv hi)

/-- All that is listed is as the value semantics wants it. -/
theorem gok_of_laid {l : List (String × DataW Unit)} (h : laidMet PP l w) (h1 : ("feedvault/jsonstring.letters", Rows.laid_feedvault_jsonstring_letters) ∈ l) (h2 : ("unicode/utf8.first", Rows.laid_unicode_utf8_first) ∈ l)
    (h3 : ("unicode/utf8.acceptRanges", Rows.laid_unicode_utf8_acceptRanges) ∈ l) (h4 : ("strconv.ErrSyntax", Rows.laid_strconv_ErrSyntax) ∈ l) (h5 : ("strconv.ErrRange", Rows.laid_strconv_ErrRange) ∈ l) : GOk w Gs := by
  have hok : ∀ n d g, (n, d) ∈ l → PP.globalNamed n = some g → ∀ cs : Array Value, w.var? PP n = some cs → ∀ u v, cs.toList = [.iface u v] → Value.okWide PP w .any 0 u v := by
    obtain ⟨ps, hv, _, hr⟩ := h
    intro n d g hm hg cs hcs u v e
    have hp := laid_place hv hm hg hcs (i := 0) (by rw [← Array.length_toList, e]; simp)
    refine (hr g 0 hp).2 u v ?_
    rw [World.var?_cell hg hcs, ← Array.getElem?_toList, e]
    rfl
  intro g cs hg
  simp only [Gs, List.mem_cons, Prod.mk.injEq, List.not_mem_nil, or_false] at hg
  rcases hg with ⟨rfl, rfl⟩ | ⟨rfl, rfl⟩ | ⟨rfl, rfl⟩ | ⟨rfl, rfl⟩ | ⟨rfl, rfl⟩
  · exact g_letters_ok (Lib.laidMet.reads h h1)
  · exact g_first_ok (Lib.laidMet.reads h h2)
  · exact g_accept_ok (Lib.laidMet.reads h h3)
  · exact g_err_ok p_syntax y_syntax (Lib.laidMet.reads h h4) (hok _ _ _ h4 p_syntax)
  · exact g_err_ok p_range y_range (Lib.laidMet.reads h h5) (hok _ _ _ h5 p_range)
end
end Go.Proofs.YtgdcdkgmeomhpaaDoor

namespace Go.Proofs.YtgdcdkgmeomhpaaDoor
open Go Go.Vs Go.RowKit Go.ChangeShapes
set_option maxRecDepth 100000
section
variable {H : Type} {enc : TypeId × Value → H} {P : Program} {w : World} {G : List (Nat × List V)} {sp : Nat → Bool} {held : Bool}

theorem add_add (a : Addr) (m n : Nat) : (a.add m).add n = a.add (m + n) := by
  unfold Addr.add
  by_cases hm : m = 0
  · subst hm; simp
  · by_cases hn : n = 0
    · subst hn; simp [hm]
    · simp [hm, hn, Nat.add_assoc]

/-- Cells that read as an element stand for an abstract value of the kind R. -/
def ElemOk (enc : TypeId × Value → H) (P : Program) (w : World) (G : List (Nat × List V)) (sp : Nat → Bool) (held : Bool) (n : Nat) (e : TypeId) (sz : Nat) (R : V → Prop) : Prop :=
  ∀ (cs : List Value) (x : DataW H × List MemPlace), cs.length = sz → DataW.trod enc P w 0 sp held n e cs = some x → ∃ v, R v ∧ v.cells.length = sz ∧ RVs (mem0 G w) w v.cells cs ∧ ∀ u ∈ cs, u.oneCell' = true

theorem rv_slice {fuel : Nat} {t e : TypeId} {sz : Nat} {R : V → Prop} {cs : List Value} {x : DataW H × List MemPlace} (ht : P.underlying t = some (.slice e)) (hsz : P.cellsOf e = sz) (h0 : 0 < sz)
    (hel : ∀ n, n < fuel → ElemOk enc P w G sp held n e sz R) (h : DataW.trod enc P w 0 sp held fuel t cs = some x) :
    ∃ nn xs u, cs = [u] ∧ (∀ v ∈ xs, R v) ∧ RV (mem0 G w) w (.slc nn xs .no) u ∧ u.oneCell' = true ∧ (nn = false → xs = []) ∧ xs.length ≤ maxLen := by
  rcases DataW.trod_slice ht h with ⟨rfl, _⟩ | ⟨a, len, cap, elems, rest, n, rfl, rfl, _, _, hlc, hcm, hlen, hat, _, _⟩
  · exact ⟨false, [], _, rfl, fun v hv => (by cases hv), .nils, rfl, fun _ => rfl, Nat.zero_le _⟩
  rw [hsz] at hat
  have each : ∀ i, i < len → ∃ ci x, w.cells? 0 (a.add (i * sz)) sz = some ci ∧ DataW.trod enc P w 0 sp held n e ci = some x := fun i hi => by
    have h1 := hat i hi
    rw [List.getElem?_eq_getElem (by omega), Option.bind_eq_some_iff] at h1
    obtain ⟨ci, h2, h3⟩ := h1
    exact ⟨ci, _, h2, h3⟩
  have build : ∀ m, m ≤ len → ∃ (xs : List V) (us : List Value), xs.length = m ∧ us.length = m * sz ∧ (∀ v ∈ xs, R v ∧ v.cells.length = sz) ∧ (∀ j u, us[j]? = some u → w.cell? (a.add j) = some u) ∧ (∀ u ∈ us, u.oneCell' = true) ∧
      ∀ i, i < m → ∀ j, j < sz → RV (mem0 G w) w ((xs.getD i .und).cells.getD j .und) (us.getD (i * sz + j) undef) := by
    intro m
    induction m with
    | zero => exact fun _ => ⟨[], [], rfl, by simp, fun v hv => (by cases hv), fun j u hj => (by simp at hj), fun u hu => (by cases hu), fun i hi => by omega⟩
    | succ m ih =>
      intro hm
      obtain ⟨xs, us, l1, l2, hR, hc, h1, hrv⟩ := ih (by omega)
      obtain ⟨ci, y, hci, hy⟩ := each m (by omega)
      obtain ⟨_, l3, hcc⟩ := World.cells?_some hci
      obtain ⟨v, hv, lv, ⟨lr, hr⟩, hone⟩ := hel n (by omega) ci y l3 hy
      refine ⟨xs ++ [v], us ++ ci, by simp [l1], by simp [l2, l3, Nat.succ_mul], ?_, ?_, ?_, ?_⟩
      · intro z hz
        rcases List.mem_append.1 hz with hz | hz
        · exact hR z hz
        · rw [List.mem_singleton.1 hz]; exact ⟨hv, lv⟩
      · intro j u hj
        by_cases hjl : j < us.length
        · rw [List.getElem?_append_left hjl] at hj; exact hc j u hj
        · rw [List.getElem?_append_right (by omega)] at hj
          have hlt := (List.getElem?_eq_some_iff.1 hj).1
          have := hcc (j - us.length) (by omega)
          rw [add_add, l2, show m * sz + (j - m * sz) = j by omega] at this
          rw [this, ← hj, l2]
      · intro u hu
        rcases List.mem_append.1 hu with hu | hu
        · exact h1 u hu
        · exact hone u hu
      · intro i hi j hj
        by_cases him : i < m
        · have hlt : i * sz + j < us.length := by
            have := Nat.mul_le_mul_right sz (show i + 1 ≤ m by omega)
            rw [Nat.succ_mul] at this
            omega
          have e1 : (xs ++ [v]).getD i .und = xs.getD i .und := by simp only [List.getD_eq_getElem?_getD]; rw [List.getElem?_append_left (by omega)]
          have e2 : (us ++ ci).getD (i * sz + j) undef = us.getD (i * sz + j) undef := by simp only [List.getD_eq_getElem?_getD]; rw [List.getElem?_append_left hlt]
          rw [e1, e2]
          exact hrv i him j hj
        · obtain rfl : i = m := by omega
          have e1 : (xs ++ [v]).getD i .und = v := by simp [List.getD_eq_getElem?_getD, l1]
          have e2 : (us ++ ci).getD (i * sz + j) undef = ci.getD j undef := by
            simp only [List.getD_eq_getElem?_getD]
            rw [List.getElem?_append_right (by omega), l2, show i * sz + j - i * sz = j by omega]
          rw [e1, e2]
          exact hr j (by omega)
  obtain ⟨xs, us, l1, l2, hR, hc, h1, hrv⟩ := build len (Nat.le_refl _)
  refine ⟨true, xs, _, rfl, fun v hv => (hR v hv).1, ?_, rfl, fun h => (by cases h), by omega⟩
  by_cases hl0 : len = 0
  · subst hl0
    obtain rfl : xs = [] := List.length_eq_zero_iff.1 l1
    exact .slc0 a cap
  · have hpos : 0 < len * sz := Nat.mul_pos (by omega) h0
    obtain ⟨u0, hu0⟩ : ∃ u, us[0]? = some u := ⟨us[0]'(by omega), List.getElem?_eq_getElem (by omega)⟩
    have hs := World.cell?_spot (hc 0 u0 hu0)
    obtain ⟨b, off, spt⟩ := a
    simp only [Addr.add, if_true] at hs
    subst hs
    obtain ⟨ul, hul⟩ : ∃ u, us[len * sz - 1]? = some u := ⟨us[len * sz - 1]'(by omega), List.getElem?_eq_getElem (by omega)⟩
    have hcl := hc _ ul hul
    rw [Addr.add_mid] at hcl
    have hpr : off + us.length ≤ prOf w b := by
      simp only [World.cell?] at hcl
      split at hcl
      · rename_i c t' fz hb
        simp only [Option.isSome_none, Bool.false_eq_true, if_false] at hcl
        have := (Array.getElem?_eq_some_iff.1 hcl).1
        have e : prOf w b = c.size := by rw [prOf, hb]
        omega
      · cases hcl
    rw [← l1]
    refine .slc xs .no b off cap sz us (fun v hv => (hR v hv).2) (by rw [l2, l1]) (fun j u hj => by have := hc j u hj; rwa [Addr.add_mid] at this) hpr h1 (fun i hi j hj => hrv i (by omega) j hj) trivial (by omega)
end

section
variable {H : Type} {enc : TypeId × Value → H} {w : World} {G : List (Nat × List V)} {sp : Nat → Bool} {held : Bool}

theorem elem_u8 (n : Nat) : ElemOk enc PP w G sp held n 5 1 (fun v => ∃ c : UInt8, v = .int .u8 (c.toNat : Int)) := by
  intro cs x _ h
  obtain ⟨z, rfl, _, hw⟩ := DataW.trod_int u_u8 h
  have hz : 0 ≤ z ∧ z ≤ 255 := by simpa [Lit.wf, IntKind.min, IntKind.max, IntKind.signed, IntKind.bits] using hw
  refine ⟨.int .u8 z, ⟨UInt8.ofNat z.toNat, ?_⟩, rfl, ⟨rfl, fun i hi => ?_⟩, fun u hu => by rw [List.mem_singleton.1 hu]; rfl⟩
  · have : (UInt8.ofNat z.toNat).toNat = z.toNat := by simp; omega
    rw [this]
    congr 1
    omega
  · simp only [V.cells, List.length_cons, List.length_nil] at hi
    obtain rfl : i = 0 := by omega
    exact .int _ _
theorem bytes_list : ∀ {xs : List V}, (∀ v ∈ xs, ∃ c : UInt8, v = .int .u8 (c.toNat : Int)) → ∃ ds, xs = bytesV ds
  | [], _ => ⟨[], rfl⟩
  | v :: r, h => by
    obtain ⟨c, rfl⟩ := h v (by simp)
    obtain ⟨ds, rfl⟩ := bytes_list (xs := r) fun v hv => h v (by simp [hv])
    exact ⟨c :: ds, rfl⟩

theorem rv_bytes {b0 : Nat} {v : Value} {d : DataW H} {ps : List MemPlace} (hval : Value.okWide PP w .any b0 34 v) (hd : DataW.Trod enc PP w 0 sp held 34 v d ps) : ∃ nn ds, RV (mem0 G w) w (.slc nn (bytesV ds) .no) v := by
  obtain ⟨fuel, hf⟩ := hd
  obtain ⟨nn, xs, u, hu, hR, hrv, _⟩ := rv_slice (G := G) u_bytes c_u8 (by omega) (fun n _ => elem_u8 n) hf
  obtain ⟨ds, rfl⟩ := bytes_list hR
  obtain ⟨a, len, cap, rfl⟩ := WideShapes.okWide_slice u_bytes hval
  have : u = .slice a len cap := by simpa [Value.cells] using hu.symm
  exact ⟨nn, ds, this ▸ hrv⟩
end
end Go.Proofs.YtgdcdkgmeomhpaaDoor

namespace Go.Proofs.YtgdcdkgmeomhpaaDoor
open Go Go.Vs Go.RowKit Go.ChangeShapes
set_option maxRecDepth 100000

theorem own : ownKnob PP.godebug = none := by kernel_rfl
theorem laidOutP : laidOutB PP = true := by kernel_rfl

theorem trodAll_stays {H : Type} {enc : TypeId × Value → H} {P : Program} (hl : laidOutB P = true) {W W' : World} (hb : Below W.heap.size W W') :
    ∀ {ts : List TypeId} {vs : List Value} {ds : List (DataW H)} {ps : List MemPlace}, (ts.all fun t => P.readableRec t && decide (t < P.types.size)) = true → (∀ x ∈ ps, x.block < W.heap.size) → DataW.TrodAll enc P W 0 (fun _ => true) true ts vs ds ps →
      DataW.TrodAll enc P W' 0 (fun b => decide (b < W.heap.size)) true ts vs ds ps
  | [], [], [], _, _, _, h => h
  | t :: ts, v :: vs, d :: ds, ps, ht, hp, h => by
    obtain ⟨p, q, h1, h2, rfl⟩ := h
    simp only [List.all_cons, Bool.and_eq_true, decide_eq_true_eq] at ht
    exact ⟨p, q, Below.trod hl ht.1.1 ht.1.2 h1 hb (fun x hx => hp x (List.mem_append_left _ hx)), trodAll_stays hl hb (by simpa using ht.2) (fun x hx => hp x (List.mem_append_right _ hx)) h2, rfl⟩
  | [], [], _ :: _, _, _, _, h => h.elim
  | [], _ :: _, _, _, _, _, h => h.elim
  | _ :: _, [], _, _, _, _, h => h.elim
  | _ :: _, _ :: _, [], _, _, _, h => h.elim

/-- What a law leaves that returns true and turns nothing that was there. -/
theorem law_post {H : Type} {enc : TypeId × Value → H} {fn : Func} {s : ChangeSpec} {W W' : World} {args : Array Value} {ds gs : List (DataW H)} {before : List MemPlace} (hv : s.vars = []) (hr : fn.resultTypes = #[4])
    (hts : (fn.params.toList.all fun t => PP.readableRec t && decide (t < PP.types.size)) = true) (hs : gs = [] → s.fn H (ds ++ gs) = { results := [.lit (.bool true)], args := ds })
    (hw : DataW.Whole enc PP fn.params.toList s.vars false W args.toList ds gs before) (hb : Below W.heap.size W W') : s.post enc PP fn false true false false W args (.bool true) W' := by
  have hW := hw
  obtain ⟨p, q, hA, hV, rfl, _, _⟩ := hw
  rw [hv] at hV
  obtain ⟨rfl, rfl⟩ := trodVars_none hV
  have hlt : ∀ x ∈ p, x.block < W.heap.size := fun x hx => hW.lt x (List.mem_append_left _ hx)
  refine ⟨ds, [], _, [], p, [], hW, ?_, ?_, ?_, hb.frame _, fun h => by cases h⟩
  · rw [hs rfl, hr]
    exact trodAll_mk1 (shut_bool u_bool true)
  · rw [hs rfl]
    exact trodAll_stays laidOutP hb hts hlt hA
  · rw [hs rfl, hv]
    rfl

/-- The numbers of a datum. -/
def flatV : Nat → DataW Unit → List Value
  | 0, _ => []
  | _ + 1, .lit (.int i n) => [.int i n]
  | _ + 1, .lit (.string s) => [.string ⟨s.toArray⟩]
  | _ + 1, .lit (.bool b) => [.bool b]
  | k + 1, .agg ps => ps.flatMap (flatV k)
  | _ + 1, _ => []
def layG (g : Nat) (cs : List Value) (h : Array Obj) : Array Obj := h.modify g fun
  | .cells _ t fz => .cells cs.toArray t fz
  | o => o
abbrev errS0 : ByteArray := { data := #[118, 97, 108, 117, 101, 32, 111, 117, 116, 32, 111, 102, 32, 114, 97, 110, 103, 101] }
abbrev errS1 : ByteArray := { data := #[105, 110, 118, 97, 108, 105, 100, 32, 115, 121, 110, 116, 97, 120] }
noncomputable def low : Nat := (World.holding PP default ⟨#[], #[], []⟩).heap.size
/-- A world in which the listed variables hold what is listed. -/
noncomputable def laidWorld (os : Os) : World :=
  let w0 := World.holding PP os ⟨#[.cells #[.string errS0] 137, .cells #[.string errS1] 137], #[], []⟩
  { w0 with heap := layG 4 (flatV 4 Rows.laid_unicode_utf8_first) (layG 1 (flatV 4 Rows.laid_feedvault_jsonstring_letters) (layG 2 [.iface 135 (.pointer (some ⟨low + 1, 0, none⟩))] (layG 3 [.iface 135 (.pointer (some ⟨low + 0, 0, none⟩))] (layG 5 (flatV 4 Rows.laid_unicode_utf8_acceptRanges) (layG 6 (flatV 4 Rows.laid_internal_strconv_uint64pow10) (layG 8 (flatV 4 Rows.laid_math_bits_deBruijn64tab) (layG 7 (flatV 4 Rows.laid_math_bits_deBruijn32tab) (w0.heap)))))))) }
theorem laidWorld_met (os : Os) (args : Array Value) : laidMet PP Rows.jsonvalueFunctionsRow.laid ((laidWorld os).forCall (fun _ _ => 0) ⟨#[], args, []⟩).memory :=
  laidMet_of_run' 8 (by kernel_rfl) (by kernel_rfl)
end Go.Proofs.YtgdcdkgmeomhpaaDoor

namespace Go.Proofs.YtgdcdkgmeomhpaaDoor
open Go Go.Vs Go.RowKit Go.ChangeShapes
set_option maxRecDepth 100000

noncomputable def fieldsOf (t : TypeId) : Array Field := match PP.underlying t with
  | some (.struct fs) => fs
  | _ => #[]
theorem u_value : PP.underlying 25 = some (.struct (fieldsOf 25)) := by kernel_rfl
theorem f_value : (fieldsOf 25).toList.map (fun f => (f.type, f.offset)) = [(3, 0), (4, 1), (2, 2), (9, 3), (22, 4), (23, 5), (3, 6)] := by kernel_rfl
theorem u_member : PP.underlying 45 = some (.struct (fieldsOf 45)) := by kernel_rfl
theorem f_member : (fieldsOf 45).toList.map (fun f => (f.type, f.offset)) = [(9, 0), (25, 1), (3, 8)] := by kernel_rfl
theorem u_int : PP.underlying 3 = some (.int .i64) := by kernel_rfl
theorem u_i64 : PP.underlying 2 = some (.int .i64) := by kernel_rfl
theorem u_vals : PP.underlying 22 = some (.slice 25) := by kernel_rfl
theorem u_mems : PP.underlying 23 = some (.slice 45) := by kernel_rfl
theorem c_int : PP.cellsOf 3 = 1 := by kernel_rfl
theorem c_i64 : PP.cellsOf 2 = 1 := by kernel_rfl
theorem c_bool : PP.cellsOf 4 = 1 := by kernel_rfl
theorem c_vals : PP.cellsOf 22 = 1 := by kernel_rfl
theorem c_mems : PP.cellsOf 23 = 1 := by kernel_rfl
theorem c_value : PP.cellsOf 25 = 7 := by kernel_rfl
theorem c_member : PP.cellsOf 45 = 9 := by kernel_rfl

section
variable {H : Type} {enc : TypeId × Value → H} {w : World} {G : List (Nat × List V)} {sp : Nat → Bool} {held : Bool}

theorem field_read {fuel : Nat} {t : TypeId} {fs : Array Field} {cs : List Value} {x : DataW H × List MemPlace} {L : List (TypeId × Nat)} (ht : PP.underlying t = some (.struct fs)) (hL : fs.toList.map (fun f => (f.type, f.offset)) = L)
    (h : DataW.trod enc PP w 0 sp held fuel t cs = some x) : ∃ n, fuel = n + 1 ∧ cs.length = PP.cellsOf t ∧ ∀ (i : Nat) (ty : TypeId) (off : Nat), L[i]? = some (ty, off) → ∃ y, DataW.trod enc PP w 0 sp held n ty ((cs.drop off).take (PP.cellsOf ty)) = some y := by
  obtain ⟨xs, n, rfl, _, hl, hxl, hall⟩ := DataW.trod_struct ht h
  refine ⟨n, rfl, hl, fun i ty off hi => ?_⟩
  rw [← hL, List.getElem?_map, Option.map_eq_some_iff] at hi
  obtain ⟨f, hf, he⟩ := hi
  have hf' : fs[i]? = some f := by simpa using hf
  have hlt := (Array.getElem?_eq_some_iff.1 hf').1
  have := hall i f hf'
  simp only [Prod.mk.injEq] at he
  rw [he.1, he.2] at this
  exact ⟨_, this.trans (List.getElem?_eq_getElem (by omega))⟩

theorem rv_int1 {n : Nat} {t : TypeId} {c : Value} {x : DataW H × List MemPlace} {k : IntKind} (ht : PP.underlying t = some (.int k)) (h : DataW.trod enc PP w 0 sp held n t [c] = some x) : ∃ z, c = .int k z := by
  obtain ⟨z, hz, _⟩ := DataW.trod_int ht h
  exact ⟨z, by simpa using hz⟩
theorem rv_bool1 {n : Nat} {c : Value} {x : DataW H × List MemPlace} (h : DataW.trod enc PP w 0 sp held n 4 [c] = some x) : ∃ b, c = .bool b := by
  obtain ⟨z, hz, _⟩ := DataW.trod_bool u_bool h
  exact ⟨z, by simpa using hz⟩
theorem rv_str1 {n : Nat} {c : Value} {x : DataW H × List MemPlace} (h : DataW.trod enc PP w 0 sp held n 9 [c] = some x) : ∃ s : ByteArray, c = .string s ∧ s.size ≤ maxLen := by
  obtain ⟨z, hz, _, hl⟩ := DataW.trod_string u_str h
  exact ⟨z, by simpa using hz, hl⟩

def IsV (v : V) : Prop := ∃ j : JV, v = .agg j.cells
def IsM (v : V) : Prop := ∃ m : JM, v = .agg m.cells
theorem list_vals : ∀ {xs : List V}, (∀ v ∈ xs, IsV v) → ∃ is, xs = encL is
  | [], _ => ⟨[], rfl⟩
  | v :: r, h => by
    obtain ⟨j, rfl⟩ := h v (by simp)
    obtain ⟨is, rfl⟩ := list_vals (xs := r) fun v hv => h v (by simp [hv])
    exact ⟨j :: is, rfl⟩
theorem list_mems : ∀ {xs : List V}, (∀ v ∈ xs, IsM v) → ∃ ms, xs = encMs ms
  | [], _ => ⟨[], rfl⟩
  | v :: r, h => by
    obtain ⟨m, rfl⟩ := h v (by simp)
    obtain ⟨ms, rfl⟩ := list_mems (xs := r) fun v hv => h v (by simp [hv])
    exact ⟨m :: ms, rfl⟩
theorem rv_slcE {nn : Bool} {xs : List V} {u : Value} (h : RV (mem0 G w) w (.slc nn xs .no) u) (hn : nn = false → xs = []) : RV (mem0 G w) w (slcE nn xs) u := by
  have : slcE nn xs = .slc nn xs .no := by
    cases nn with
    | true => rfl
    | false => rw [hn rfl]; rfl
  rw [this]; exact h
theorem RVs.cons {a : V} {b : Value} {cs : List V} {us : List Value} {μ : Mem} (h : RV μ w a b) (hs : RVs μ w cs us) : RVs μ w (a :: cs) (b :: us) :=
  ⟨by simp [hs.1], fun i hi => by
    match i with
    | 0 => exact h
    | i + 1 => exact hs.2 i (by simpa using hi)⟩
theorem RVs.nil {μ : Mem} : RVs μ w [] [] := ⟨rfl, fun i hi => by cases hi⟩
theorem RVs.app {cs cs' : List V} {us us' : List Value} {μ : Mem} (h : RVs μ w cs us) (h' : RVs μ w cs' us') : RVs μ w (cs ++ cs') (us ++ us') := by
  induction cs generalizing us with
  | nil =>
    have : us = [] := by have := h.1; simpa using this.symm
    subst this
    exact h'
  | cons c r ih =>
    match us, h with
    | [], h => cases h.1
    | u :: us, h =>
      have hr : RVs μ w r us := ⟨by have := h.1; simpa using this, fun i hi => by have := h.2 (i + 1) (by simpa using hi); simpa using this⟩
      have h0 : RV μ w c u := by have := h.2 0 (by simp); simpa using this
      exact RVs.cons h0 (ih hr)

theorem json_elems : ∀ (n : Nat), ElemOk enc PP w G sp held n 25 7 IsV ∧ ElemOk enc PP w G sp held n 45 9 IsM := by
  intro n
  induction n using Nat.strongRecOn with
  | _ n ih =>
    constructor
    · intro cs x hl h
      obtain ⟨m, rfl, _, hf⟩ := field_read u_value f_value h
      match cs, hl with
      | [c0, c1, c2, c3, c4, c5, c6], _ =>
        obtain ⟨_, h0⟩ := hf 0 _ _ rfl
        obtain ⟨_, h1⟩ := hf 1 _ _ rfl
        obtain ⟨_, h2⟩ := hf 2 _ _ rfl
        obtain ⟨_, h3⟩ := hf 3 _ _ rfl
        obtain ⟨_, h4⟩ := hf 4 _ _ rfl
        obtain ⟨_, h5⟩ := hf 5 _ _ rfl
        obtain ⟨_, h6⟩ := hf 6 _ _ rfl
        rw [c_int] at h0 h6
        rw [c_bool] at h1
        rw [c_i64] at h2
        rw [c_str] at h3
        rw [c_vals] at h4
        rw [c_mems] at h5
        obtain ⟨k, rfl⟩ := rv_int1 u_int h0
        obtain ⟨b, rfl⟩ := rv_bool1 h1
        obtain ⟨z, rfl⟩ := rv_int1 u_i64 h2
        obtain ⟨s, rfl, _⟩ := rv_str1 h3
        obtain ⟨a, rfl⟩ := rv_int1 u_int h6
        obtain ⟨ni, xs, u4, e4, hR4, hr4, ho4, hn4, _⟩ := rv_slice (G := G) u_vals c_value (by omega) (fun k hk => (ih k (by omega)).1) h4
        obtain ⟨nm, ys, u5, e5, hR5, hr5, ho5, hn5, _⟩ := rv_slice (G := G) u_mems c_member (by omega) (fun k hk => (ih k (by omega)).2) h5
        obtain ⟨is, rfl⟩ := list_vals hR4
        obtain ⟨ms, rfl⟩ := list_mems hR5
        obtain rfl : c4 = u4 := by simpa using e4
        obtain rfl : c5 = u5 := by simpa using e5
        refine ⟨.agg (JV.mk k b z s.data.toList ni is nm ms a).cells, ⟨_, rfl⟩, JV.len _, ?_, ?_⟩
        · exact RVs.cons (.int _ _) (RVs.cons (.bool _) (RVs.cons (.int _ _) (RVs.cons (.str _) (RVs.cons (rv_slcE hr4 hn4) (RVs.cons (rv_slcE hr5 hn5) (RVs.cons (.int _ _) RVs.nil))))))
        · intro u hu
          simp only [List.mem_cons, List.not_mem_nil, or_false] at hu
          rcases hu with rfl | rfl | rfl | rfl | rfl | rfl | rfl <;> first | rfl | assumption
    · intro cs x hl h
      obtain ⟨m, rfl, _, hf⟩ := field_read u_member f_member h
      obtain ⟨_, h0⟩ := hf 0 _ _ rfl
      obtain ⟨_, h1⟩ := hf 1 _ _ rfl
      obtain ⟨_, h2⟩ := hf 2 _ _ rfl
      rw [c_str] at h0
      rw [c_value] at h1
      rw [c_int] at h2
      obtain ⟨v, ⟨j, rfl⟩, _, hrv, hone⟩ := (ih m (by omega)).1 ((cs.drop 1).take 7) _ (by simp; omega) h1
      match cs, hl with
      | [c0, c1, c2, c3, c4, c5, c6, c7, c8], _ =>
        obtain ⟨s, rfl, _⟩ := rv_str1 h0
        obtain ⟨a, rfl⟩ := rv_int1 u_int h2
        refine ⟨.agg (JM.mk s.data.toList j a).cells, ⟨_, rfl⟩, JM.len _, ?_, ?_⟩
        · exact RVs.cons (.str _) (RVs.app (us := [c1, c2, c3, c4, c5, c6, c7]) hrv (RVs.cons (.int _ _) RVs.nil))
        · intro u hu
          simp only [List.mem_cons, List.not_mem_nil, or_false] at hu
          simp only [List.drop_succ_cons, List.drop_zero, List.take_succ_cons, List.take_zero, List.mem_cons, List.not_mem_nil, or_false] at hone
          rcases hu with rfl | hu | hu | hu | hu | hu | hu | hu | rfl
          · rfl
          all_goals first | rfl | (exact hone u (by simp [hu]))

/-- A value handed to the law. -/
theorem rv_value {b0 : Nat} {v : Value} {d : DataW H} {ps : List MemPlace} (hval : Value.okWide PP w .any b0 25 v) (hd : DataW.Trod enc PP w 0 sp held 25 v d ps) : ∃ j : JV, RV (mem0 G w) w j.enc v := by
  obtain ⟨fuel, hf⟩ := hd
  simp only [Value.okWide, u_value] at hval
  obtain ⟨us, rfl, hsz, _⟩ := hval
  rw [c_value] at hsz
  obtain ⟨_, ⟨j, rfl⟩, _, hr, hone⟩ := (json_elems (enc := enc) (w := w) (G := G) (sp := sp) (held := held) fuel).1 us.toList _ (by simpa using hsz) hf
  have := RV.agg (μ := mem0 G w) (w := w) j.cells us.toList hr.1 hone hr.2
  exact ⟨j, by show RV (mem0 G w) w (V.agg j.cells) _; simpa using this⟩
end
end Go.Proofs.YtgdcdkgmeomhpaaDoor

namespace Go.Proofs.YtgdcdkgmeomhpaaDoor
open Go Go.Vs Go.RowKit Go.ChangeShapes
set_option maxRecDepth 100000

theorem jsonvalueFunctions_lifted (os : Os) (started : os.Started) (H : Type) (enc : TypeId × Value → H) :
    ReturnsInHanded {} Go.Proofs.Tryd.checked os 3 .any (fun w args => (Rows.jsonvalueFunctionsSpec.pre enc PP Go.Proofs.Tryd.f3 [] false w args ∧ laidMet PP Rows.jsonvalueFunctionsRow.laid w) ∧ sizedMet enc PP Go.Proofs.Tryd.f3 (OpenSpec.ofChange Rows.jsonvalueFunctionsSpec) false w args)
      (Rows.jsonvalueFunctionsSpec.post enc PP Go.Proofs.Tryd.f3 false true false false) := by
  refine returnsInHanded_of_change_and (C := Go.Proofs.Tryd.checked) (X := fun w _ => laidMet PP Rows.jsonvalueFunctionsRow.laid w) (fun _ _ _ hh h => h.of_heap hh) own started (by kernel_rfl) Go.Proofs.Tryd.func3
    (ChangeSpec.witness_at (enc := enc) (C := Go.Proofs.Tryd.checked) (os := os) (X := fun w _ => laidMet PP Rows.jsonvalueFunctionsRow.laid w) false (laidWorld os) #[.agg #[.int .i64 0, .bool false, .int .i64 0, .string ⟨#[]⟩, .slice none 0 0, .slice none 0 0, .int .i64 0], .agg #[.int .i64 0, .bool false, .int .i64 0, .string ⟨#[]⟩, .slice none 0 0, .slice none 0 0, .int .i64 0], .string ⟨#[]⟩] 8 rfl (by kernel_rfl) (by kernel_rfl) (by kernel_rfl) (by kernel_rfl) (by kernel_rfl) (laidWorld_met os _)) ?_
  intro W base args ds gs before hval0 hW _ _ hL _
  have hval : ∀ (j : Nat) t v, Go.Proofs.Tryd.f3.params[j]? = some t → args[j]? = some v → Value.okWide PP W .any base t v := hval0
  have hW' := hW
  obtain ⟨p, q, hA0, hV, rfl, hfz, hnd⟩ := hW
  have hA : DataW.TrodAll enc PP W 0 (fun _ => true) true Go.Proofs.Tryd.f3.params.toList args.toList ds p := hA0
  rw [Go.Proofs.Tryd.params3] at hA hval
  obtain ⟨v0, v1, v2, d0, d1, d2, p0, p1, p2, rfl, rfl, rfl, h0, h1, h2⟩ := trodAll_three hA
  obtain ⟨x0, r0⟩ := rv_value (G := Gs) (hval 0 25 v0 rfl rfl) h0
  obtain ⟨x1, r1⟩ := rv_value (G := Gs) (hval 1 25 v1 rfl rfl) h1
  obtain ⟨x2, rfl, rfl, rfl, b2⟩ := Go.ChangeMaps.open_string u_str (hval 2 9 v2 rfl rfl) h2
  have hG := gok_of_laid hL (by simp [Rows.jsonvalueFunctionsRow]) (by simp [Rows.jsonvalueFunctionsRow]) (by simp [Rows.jsonvalueFunctionsRow]) (by simp [Rows.jsonvalueFunctionsRow]) (by simp [Rows.jsonvalueFunctionsRow])
  have hC := law_calls (X := Xc) (W := W) (args := [x0.enc, x1.enc, .str x2.data.toList]) (us := [v0, v1, .string x2]) (f := 3) (law11Functions_C rfl) hG ⟨rfl, fun i hi => by
    match i, hi with
    | 0, _ => exact r0
    | 1, _ => exact r1
    | 2, _ => exact .str x2⟩
  refine hC.mono fun e W' ⟨he, hb⟩ => ⟨_, he, law_post rfl (by kernel_rfl) (by kernel_rfl) (fun hg => by subst hg; rfl) hW' hb⟩

theorem jsonvalueFunctions_row : Rows.JsonvalueFunctionsSaid :=
  OpenClaim.holds_of_wide 3 Go.Proofs.Tryd.f3 rfl rfl rfl rfl rfl rfl rfl ⟨rfl, rfl, rfl, rfl, rfl⟩ rfl rfl rfl rfl rfl (by kernel_rfl) Go.Proofs.Tryd.func3 (by kernel_rfl)
    (of_decide_eq_true (by kernel_rfl)) (by unfold Func.isWrapper; rw [if_neg (of_decide_eq_false (by kernel_rfl))]; exact ⟨rfl, rfl⟩)
    (fun os started H enc _ => jsonvalueFunctions_lifted os started H enc)

theorem jsonvalueFunctions_card : Rows.JsonvalueFunctionsCardSaid :=
  Claim7.holds_tied_plain_at .later [] [.data, .data, .data, .data, .sentinel, .sentinel, .data, .pinned] true (true, "96ebcd071a44423fa6172b6e05294c4e6cb951c42bcff84d9bdb0ef5f319f581") true
    jsonvalueFunctions_row (fun _ h => by cases h) (by kernel_rfl) (fun _ h => by cases h) jsonvalueFunctions_row_tie rfl ⟨rfl, rfl⟩ (by kernel_rfl) rfl
    (fun f fn hf hfn => by
      obtain rfl : f = 3 := Option.some.inj ((show PP.funcNamed "feedvault/feedvaultlaw11.JsonvalueFunctions" = some 3 by kernel_rfl).symm.trans hf) |>.symm
      obtain rfl : fn = Go.Proofs.Tryd.f3 := (Option.some.inj (Go.Proofs.Tryd.func3.symm.trans hfn)).symm
      refine ⟨by kernel_rfl, fun j t ht => ?_⟩
      rw [Go.Proofs.Tryd.params3] at ht
      match j, ht with
      | 0, ht => simp at ht; subst ht; exact (show PP.wantsStandIn 25 = false by kernel_rfl)
      | 1, ht => simp at ht; subst ht; exact (show PP.wantsStandIn 25 = false by kernel_rfl)
      | 2, ht => simp at ht; subst ht; exact (show PP.wantsStandIn 9 = false by kernel_rfl)
      | j + 3, ht => simp at ht)
    (by kernel_rfl)
#print axioms jsonvalueFunctions_card
end Go.Proofs.YtgdcdkgmeomhpaaDoor
