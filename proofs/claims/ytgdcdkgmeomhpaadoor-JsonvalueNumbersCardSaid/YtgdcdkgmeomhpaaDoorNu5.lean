/- 'JsonvalueNumbers' holds: for every list of bytes and every bool the law on numbers of chapter 11 returns true and leaves its arguments as they were, where the listed package variables start as the program's text lays them (the tied card). -/
import Derived.Lib.ParseIntBTie
import Derived.Handed
import Derived.LaidLaws
import Derived.Lib.LaidU8
import Derived.ProofKit
import Derived.JoinedOf
import Derived.Test.YtgdcdkgmeomhpaaDoorTie
import Derived.SevenTiedAt
import Derived.Test.YtgdcdkgmeomhpaaDoorCards
import Derived.Test.YtgdcdkgmeomhpaaDoorNu1
import Derived.Test.YtgdcdkgmeomhpaaDoorNu2
import Derived.Test.YtgdcdkgmeomhpaaDoorNu3
import Derived.Test.YtgdcdkgmeomhpaaDoorNu4
set_option linter.unusedVariables false
set_option linter.unusedSimpArgs false

namespace Go.Proofs.YtgdcdkgmeomhpaaDoor
open Go Go.Vs
set_option maxRecDepth 20000
attribute [local irreducible] chooseK

/-- A list that is being appended to: nil at first, then the owner of row number T. -/
def grow (T : Nat) (xs : List V) : V := .slc (!xs.isEmpty) xs (if xs.isEmpty then .no else .own T)
def tkl (xs : List V) : List Nat := if xs.isEmpty then [] else [xs.length]
def ttl (e : TypeId) (xs : List V) : List TypeId := if xs.isEmpty then [] else [e]

theorem vapp_grow {e : TypeId} {sz : Nat} {σ : St} {xs : List V} {y : V} {T0 : List Nat} {U0 : List TypeId} {K : V → St → Prop} (hx : ∀ x ∈ xs, x.cells.length = sz) (hy : y.cells.length = sz) (ht : y.notTup = true) (hl : xs.length + 1 ≤ big)
    (h1 : σ.toks = T0 ++ tkl xs) (h2 : σ.tts = U0 ++ ttl e xs) (h3 : U0.length = T0.length)
    (h : K (grow T0.length (xs ++ [y])) ⟨σ.objs, σ.maps, T0 ++ tkl (xs ++ [y]), σ.tys, U0 ++ ttl e (xs ++ [y])⟩) : vapp e sz σ (grow T0.length xs) [y] K := by
  obtain ⟨O, M, T, Y, U⟩ := σ
  simp only at h1 h2 h
  subst h1
  subst h2
  cases xs with
  | nil =>
    refine vapp1_nil hy ht ?_
    simpa [grow, tkl, ttl] using h
  | cons x r =>
    refine vapp1_own hx (by simp) hl hy ht (app_get _ _ rfl) (by rw [← h3]; exact app_get _ _ rfl) ?_
    simpa [grow, tkl, ttl, List.set_append_right] using h

theorem grow_cells {T : Nat} {xs : List V} : (grow T xs).cells = [grow T xs] := rfl
theorem grow_notTup {T : Nat} {xs : List V} : (grow T xs).notTup = true := rfl
theorem grow_clean {T k : Nat} {xs : List V} (hk : k ≤ T) (h : cleanL k xs = xs) : (grow T xs).clean k = slcE false xs := by
  cases xs with
  | nil => simp [grow, V.clean, slcE, cleanL, Tk.clean]
  | cons x r =>
    simp only [grow, V.clean, slcE, h, List.isEmpty_cons, Bool.not_false, Bool.false_or, Bool.false_eq_true, ↓reduceIte, Tk.clean]
    rw [if_neg (by omega)]

/-- Objects and rows were made, and none of them is told of. -/
theorem exitNewT {σ : St} (hw : σ.wf) {xo : List (List V)} {xy : List TypeId} {xt : List Nat} {xtt : List TypeId} {Q : Out → St → Prop} {out out' : Out} (hc : out.clean σ.toks.length = out') (hf : out'.fits σ.objs.length σ.maps.length σ.toks.length = true) (h : Q out' σ) :
    ExitOk σ Q out ⟨σ.objs ++ xo, σ.maps, σ.toks ++ xt, σ.tys ++ xy, σ.tts ++ xtt⟩ := by
  have := exitCut (xo := xo) (xm := []) (xt := xt) (xy := xy) (xtt := xtt) (σ0 := σ) (O := σ.objs) (M := σ.maps) (T := σ.toks) (Y := σ.tys) (TT := σ.tts) (Q := Q) (out := out) rfl rfl rfl hw.1 hw.2 (by rw [hc]; exact hf) (fun o cs ho => .inl ho) (fun r es hr => .inl hr) (by rw [hc]; exact h)
  simpa using this

mutual
/-- The value without its offsets. -/
def stripJ : JV → JV
  | .mk k b n s _ is _ ms _ => .mk k b n s false (stripL is) false (stripM ms) 0
def stripL : List JV → List JV
  | [] => []
  | v :: r => stripJ v :: stripL r
def stripMm : JM → JM
  | .mk key v _ => .mk key (stripJ v) 0
def stripM : List JM → List JM
  | [] => []
  | m :: r => stripMm m :: stripM r
end
theorem stripL_map : ∀ l : List JV, stripL l = l.map stripJ
  | [] => rfl
  | v :: r => by rw [stripL, stripL_map r]; rfl
theorem stripM_map : ∀ l : List JM, stripM l = l.map stripMm
  | [] => rfl
  | v :: r => by rw [stripM, stripM_map r]; rfl
theorem take_snoc {α : Type} {l : List α} {j : Nat} (d : α) (h : j < l.length) : l.take (j + 1) = l.take j ++ [l.getD j d] := by
  rw [List.take_add_one, List.getD_eq_getElem?_getD, List.getElem?_eq_getElem h]; rfl

theorem strip_C : ∀ (N : Nat) (v : JV), v.wt ≤ N → v.wt ≤ big → ∀ (σ : St) (Q : Out → St → Prop), Q (.ret (stripJ v).enc) σ → C Xc 10 [v.enc] σ Q := by
  intro N
  induction N with
  | zero => intro v hv; have := v.wt_pos; omega
  | succ N ih =>
    intro v hv hb σ Q h
    obtain ⟨k, b, n, s, ni, is, nm, ms, a⟩ := v
    unfold big at hb
    rw [JV.wt] at hv hb
    have hwL := wtL_len is
    have hwM := wtM_len ms
    rw [stripJ, stripL_map, stripM_map] at h
    refine bodyW cf_jvStrip (Eq.refl true) fun hw => ?_
    simp -implicitDefEqProofs only [vf_jvStrip, JV.enc, JV.cells, slcE, List.append_assoc, getL, getL0, setL, setL0, List.set_cons_zero, List.set_cons_succ, encL_len, wset, tailW, tailEnd, isLenV, isOneV, vop, vbin, vbinI, vun, ↓reduceIte, Nat.reduceEqDiff, Nat.reduceAdd, vcells, vcut, cutSK, cutVK, cutNK, fillV, spl, Nat.reduceLeDiff, V.isNil, bne_self_eq_false]
    refine LoopP.intro (fun n' fr σ' => ∃ (j : Nat) (X : List (List V)) (Y : List TypeId), j ≤ is.length ∧ n' = is.length - j ∧ fr 1 = .ref (some (σ.objs.length, 0)) ∧ fr 2 = .ref (some (σ.objs.length + 1, 0)) ∧ fr 3 = .ref (some (σ.objs.length + 2, 0)) ∧
        fr 18 = .slc (ni || !(encL is).isEmpty) (encL is) .no ∧ fr 19 = .int .i64 (is.length : Int) ∧ fr 20 = .int .i64 (j : Int) ∧
        σ' = ⟨σ.objs ++ ([.int .i64 k, .bool b, .int .i64 n, .str s, slcE ni (encL is), slcE nm (encMs ms), .int .i64 a] :: zero7 :: [.int .i64 k, .bool b, .int .i64 n, .str s, grow σ.toks.length (encL ((is.map stripJ).take j)), .slc false [] .no, .int .i64 0] :: X), σ.maps,
          σ.toks ++ tkl (encL ((is.map stripJ).take j)), σ.tys ++ Y, σ.tts ++ ttl 25 (encL ((is.map stripJ).take j))⟩) is.length ?_ ?_
    · exact ⟨0, [], _, by omega, by omega, by simp -implicitDefEqProofs only [wset, tailW, tailEnd, isLenV, isOneV, vop, vbin, vbinI, vun, ↓reduceIte, Nat.reduceEqDiff, Nat.reduceAdd, vcells, vcut, cutSK, cutVK, cutNK, fillV, spl, Nat.reduceLeDiff, V.isNil, bne_self_eq_false], by simp -implicitDefEqProofs only [wset, tailW, tailEnd, isLenV, isOneV, vop, vbin, vbinI, vun, ↓reduceIte, Nat.reduceEqDiff, Nat.reduceAdd, vcells, vcut, cutSK, cutVK, cutNK, fillV, spl, Nat.reduceLeDiff, V.isNil, bne_self_eq_false], by simp -implicitDefEqProofs only [wset, tailW, tailEnd, isLenV, isOneV, vop, vbin, vbinI, vun, ↓reduceIte, Nat.reduceEqDiff, Nat.reduceAdd, vcells, vcut, cutSK, cutVK, cutNK, fillV, spl, Nat.reduceLeDiff, V.isNil, bne_self_eq_false], by simp -implicitDefEqProofs only [wset, tailW, tailEnd, isLenV, isOneV, vop, vbin, vbinI, vun, ↓reduceIte, Nat.reduceEqDiff, Nat.reduceAdd, vcells, vcut, cutSK, cutVK, cutNK, fillV, spl, Nat.reduceLeDiff, V.isNil, bne_self_eq_false], by simp -implicitDefEqProofs only [wset, tailW, tailEnd, isLenV, isOneV, vop, vbin, vbinI, vun, ↓reduceIte, Nat.reduceEqDiff, Nat.reduceAdd, vcells, vcut, cutSK, cutVK, cutNK, fillV, spl, Nat.reduceLeDiff, V.isNil, bne_self_eq_false], by simp -implicitDefEqProofs only [Int.natCast_zero, wset, tailW, tailEnd, isLenV, isOneV, vop, vbin, vbinI, vun, ↓reduceIte, Nat.reduceEqDiff, Nat.reduceAdd, vcells, vcut, cutSK, cutVK, cutNK, fillV, spl, Nat.reduceLeDiff, V.isNil, bne_self_eq_false], by simp [grow, tkl, ttl, encL, zero7, slcE]; rfl⟩
    rintro n' fr σ' ⟨j, X, Y, hj, rfl, f1, f2, f3, f18, f19, f20, rfl⟩
    simp -implicitDefEqProofs only [f1, f2, f3, f18, f19, f20, wset, tailW, tailEnd, isLenV, isOneV, vop, vbin, vbinI, vun, ↓reduceIte, Nat.reduceEqDiff, Nat.reduceAdd, vcells, vcut, cutSK, cutVK, cutNK, fillV, spl, Nat.reduceLeDiff, V.isNil, bne_self_eq_false]
    refine chooseK_split (fun h2 => ?_) (fun h2 => ?_) <;> simp -implicitDefEqProofs only [h2, f1, f2, f3, f18, f19, f20, encL_len, wset, tailW, tailEnd, isLenV, isOneV, vop, vbin, vbinI, vun, ↓reduceIte, Nat.reduceEqDiff, Nat.reduceAdd, vcells, vcut, cutSK, cutVK, cutNK, fillV, spl, Nat.reduceLeDiff, V.isNil, bne_self_eq_false]
    · have hjl : j < is.length := by simp at h2; omega
      refine ⟨by omega, encL_cells is, ?_⟩
      rw [encL_get is j hjl]
      have hm := getD_mem (d := jnull) hjl
      have hwt := wtL_mem hm
      have htk := take_snoc (l := is.map stripJ) (stripJ jnull) (j := j) (by simpa using hjl)
      have hg0 : (is.map stripJ).getD j (stripJ jnull) = stripJ (is.getD j jnull) := by simp [List.getD_eq_getElem?_getD, List.getElem?_eq_getElem hjl]
      rw [hg0] at htk
      have hjL : ((is.map stripJ).take j).length = j := by simp; omega
      generalize (is.map stripJ).take j = st at *
      generalize hv0 : is.getD j jnull = v0 at *
      simp -implicitDefEqProofs only [JV.enc, JV.len, take7, List.append_assoc, getL, getL0, setL, setL0, List.set_cons_zero, List.set_cons_succ, f3, wset, tailW, tailEnd, isLenV, isOneV, vop, vbin, vbinI, vun, ↓reduceIte, Nat.reduceEqDiff, Nat.reduceAdd, vcells, vcut, cutSK, cutVK, cutNK, fillV, spl, Nat.reduceLeDiff, V.isNil, bne_self_eq_false]
      refine ih v0 (by omega) (by unfold big; omega) _ _ ?_
      simp -implicitDefEqProofs only [f1, f2, f3, f18, f19, f20, List.append_assoc, getL, getL0, setL, setL0, List.set_cons_zero, List.set_cons_succ, wset, tailW, tailEnd, isLenV, isOneV, vop, vbin, vbinI, vun, ↓reduceIte, Nat.reduceEqDiff, Nat.reduceAdd, vcells, vcut, cutSK, cutVK, cutNK, fillV, spl, Nat.reduceLeDiff, V.isNil, bne_self_eq_false]
      refine ⟨fun x hx => by rw [List.mem_singleton.1 hx]; exact ⟨JV.len _, rfl⟩, ?_⟩
      refine vapp_grow (encL_cells st) (JV.len _) rfl (by rw [encL_len]; unfold big; omega) rfl rfl hw.2 ?_
      simp -implicitDefEqProofs only [f1, f2, f3, f18, f19, f20, List.append_assoc, getL, getL0, setL, setL0, List.set_cons_zero, List.set_cons_succ, grow_cells, grow_notTup, wset, tailW, tailEnd, isLenV, isOneV, vop, vbin, vbinI, vun, ↓reduceIte, Nat.reduceEqDiff, Nat.reduceAdd, vcells, vcut, cutSK, cutVK, cutNK, fillV, spl, Nat.reduceLeDiff, V.isNil, bne_self_eq_false]
      rw [wrap64 (by omega)]
      refine ⟨is.length - (j + 1), by omega, j + 1, X ++ [v0.cells], Y ++ [25], by omega, rfl, by simp -implicitDefEqProofs only [f1, wset, tailW, tailEnd, isLenV, isOneV, vop, vbin, vbinI, vun, ↓reduceIte, Nat.reduceEqDiff, Nat.reduceAdd, vcells, vcut, cutSK, cutVK, cutNK, fillV, spl, Nat.reduceLeDiff, V.isNil, bne_self_eq_false], by simp -implicitDefEqProofs only [f2, wset, tailW, tailEnd, isLenV, isOneV, vop, vbin, vbinI, vun, ↓reduceIte, Nat.reduceEqDiff, Nat.reduceAdd, vcells, vcut, cutSK, cutVK, cutNK, fillV, spl, Nat.reduceLeDiff, V.isNil, bne_self_eq_false], by simp -implicitDefEqProofs only [f3, wset, tailW, tailEnd, isLenV, isOneV, vop, vbin, vbinI, vun, ↓reduceIte, Nat.reduceEqDiff, Nat.reduceAdd, vcells, vcut, cutSK, cutVK, cutNK, fillV, spl, Nat.reduceLeDiff, V.isNil, bne_self_eq_false], by simp -implicitDefEqProofs only [f18, wset, tailW, tailEnd, isLenV, isOneV, vop, vbin, vbinI, vun, ↓reduceIte, Nat.reduceEqDiff, Nat.reduceAdd, vcells, vcut, cutSK, cutVK, cutNK, fillV, spl, Nat.reduceLeDiff, V.isNil, bne_self_eq_false], by simp -implicitDefEqProofs only [f19, wset, tailW, tailEnd, isLenV, isOneV, vop, vbin, vbinI, vun, ↓reduceIte, Nat.reduceEqDiff, Nat.reduceAdd, vcells, vcut, cutSK, cutVK, cutNK, fillV, spl, Nat.reduceLeDiff, V.isNil, bne_self_eq_false], by simp -implicitDefEqProofs only [wset, tailW, tailEnd, isLenV, isOneV, vop, vbin, vbinI, vun, ↓reduceIte, Nat.reduceEqDiff, Nat.reduceAdd, vcells, vcut, cutSK, cutVK, cutNK, fillV, spl, Nat.reduceLeDiff, V.isNil, bne_self_eq_false]; rfl, ?_⟩
      rw [htk, encL_snoc]
      rfl
    have hj2 : j = is.length := by simp at h2; omega
    rw [List.take_of_length_le (by simp; omega)]
    have hLc : cleanL σ.toks.length (encL (is.map stripJ)) = encL (is.map stripJ) := encL_clean _ _
    have hLg := grow_clean (T := σ.toks.length) (Nat.le_refl _) hLc
    generalize hI1 : grow σ.toks.length (encL (is.map stripJ)) = I1 at *
    have hT1 : σ.toks.length ≤ (σ.toks ++ tkl (encL (is.map stripJ))).length := by simp
    have hU1 : (σ.tts ++ ttl 25 (encL (is.map stripJ))).length = (σ.toks ++ tkl (encL (is.map stripJ))).length := by
      simp only [List.length_append, hw.2, ttl, tkl]
      cases (encL (is.map stripJ)).isEmpty <;> rfl
    generalize hT : tkl (encL (is.map stripJ)) = T1 at *
    generalize hU : ttl 25 (encL (is.map stripJ)) = U1 at *
    have gS : ∀ nn xs, (V.slc nn xs .no) = slcE nm (encMs ms) → True := fun _ _ _ => trivial
    simp -implicitDefEqProofs only [f1, f2, f3, List.append_assoc, getL, getL0, setL, setL0, List.set_cons_zero, List.set_cons_succ, slcE, encMs_len, wset, tailW, tailEnd, isLenV, isOneV, vop, vbin, vbinI, vun, ↓reduceIte, Nat.reduceEqDiff, Nat.reduceAdd, vcells, vcut, cutSK, cutVK, cutNK, fillV, spl, Nat.reduceLeDiff, V.isNil, bne_self_eq_false]
    refine LoopP.intro (fun n' fr σ' => ∃ (j : Nat) (X : List (List V)) (Y : List TypeId), j ≤ ms.length ∧ n' = ms.length - j ∧ fr 1 = .ref (some (σ.objs.length, 0)) ∧ fr 2 = .ref (some (σ.objs.length + 1, 0)) ∧ fr 3 = .ref (some (σ.objs.length + 2, 0)) ∧
        fr 33 = .slc (nm || !(encMs ms).isEmpty) (encMs ms) .no ∧ fr 34 = .int .i64 (ms.length : Int) ∧ fr 35 = .int .i64 (j : Int) ∧
        σ' = ⟨σ.objs ++ ([.int .i64 k, .bool b, .int .i64 n, .str s, slcE ni (encL is), slcE nm (encMs ms), .int .i64 a] :: zero7 :: [.int .i64 k, .bool b, .int .i64 n, .str s, I1, grow (σ.toks ++ T1).length (encMs ((ms.map stripMm).take j)), .int .i64 0] :: X), σ.maps,
          (σ.toks ++ T1) ++ tkl (encMs ((ms.map stripMm).take j)), σ.tys ++ Y, (σ.tts ++ U1) ++ ttl 45 (encMs ((ms.map stripMm).take j))⟩) ms.length ?_ ?_
    · exact ⟨0, X, Y, by omega, by omega, by simp -implicitDefEqProofs only [f1, wset, tailW, tailEnd, isLenV, isOneV, vop, vbin, vbinI, vun, ↓reduceIte, Nat.reduceEqDiff, Nat.reduceAdd, vcells, vcut, cutSK, cutVK, cutNK, fillV, spl, Nat.reduceLeDiff, V.isNil, bne_self_eq_false], by simp -implicitDefEqProofs only [f2, wset, tailW, tailEnd, isLenV, isOneV, vop, vbin, vbinI, vun, ↓reduceIte, Nat.reduceEqDiff, Nat.reduceAdd, vcells, vcut, cutSK, cutVK, cutNK, fillV, spl, Nat.reduceLeDiff, V.isNil, bne_self_eq_false], by simp -implicitDefEqProofs only [f3, wset, tailW, tailEnd, isLenV, isOneV, vop, vbin, vbinI, vun, ↓reduceIte, Nat.reduceEqDiff, Nat.reduceAdd, vcells, vcut, cutSK, cutVK, cutNK, fillV, spl, Nat.reduceLeDiff, V.isNil, bne_self_eq_false], by simp -implicitDefEqProofs only [wset, tailW, tailEnd, isLenV, isOneV, vop, vbin, vbinI, vun, ↓reduceIte, Nat.reduceEqDiff, Nat.reduceAdd, vcells, vcut, cutSK, cutVK, cutNK, fillV, spl, Nat.reduceLeDiff, V.isNil, bne_self_eq_false], by simp -implicitDefEqProofs only [wset, tailW, tailEnd, isLenV, isOneV, vop, vbin, vbinI, vun, ↓reduceIte, Nat.reduceEqDiff, Nat.reduceAdd, vcells, vcut, cutSK, cutVK, cutNK, fillV, spl, Nat.reduceLeDiff, V.isNil, bne_self_eq_false], by simp -implicitDefEqProofs only [Int.natCast_zero, wset, tailW, tailEnd, isLenV, isOneV, vop, vbin, vbinI, vun, ↓reduceIte, Nat.reduceEqDiff, Nat.reduceAdd, vcells, vcut, cutSK, cutVK, cutNK, fillV, spl, Nat.reduceLeDiff, V.isNil, bne_self_eq_false], by simp [grow, tkl, ttl, encMs, slcE]⟩
    clear hj2 h2 hj f1 f2 f3 f18 f19 f20
    rintro n' fr σ' ⟨j, X, Y, hj, rfl, f1, f2, f3, f18, f19, f20, rfl⟩
    simp -implicitDefEqProofs only [f1, f2, f3, f18, f19, f20, wset, tailW, tailEnd, isLenV, isOneV, vop, vbin, vbinI, vun, ↓reduceIte, Nat.reduceEqDiff, Nat.reduceAdd, vcells, vcut, cutSK, cutVK, cutNK, fillV, spl, Nat.reduceLeDiff, V.isNil, bne_self_eq_false]
    refine chooseK_split (fun h2 => ?_) (fun h2 => ?_) <;> simp -implicitDefEqProofs only [h2, f1, f2, f3, f18, f19, f20, encMs_len, wset, tailW, tailEnd, isLenV, isOneV, vop, vbin, vbinI, vun, ↓reduceIte, Nat.reduceEqDiff, Nat.reduceAdd, vcells, vcut, cutSK, cutVK, cutNK, fillV, spl, Nat.reduceLeDiff, V.isNil, bne_self_eq_false]
    · have hjl : j < ms.length := by simp at h2; omega
      refine ⟨by omega, encMs_cells ms, ?_⟩
      rw [encMs_get ms j hjl, show ms.getD j (.mk [] (jv 0 false 0 [] [] [] 0) 0) = ms.getD j jmnull from rfl]
      have hm := getD_mem (d := jmnull) hjl
      have hwt := wtM_mem hm
      have htk := take_snoc (l := ms.map stripMm) (stripMm jmnull) (j := j) (by simpa using hjl)
      have hg0 : (ms.map stripMm).getD j (stripMm jmnull) = stripMm (ms.getD j jmnull) := by simp [List.getD_eq_getElem?_getD, List.getElem?_eq_getElem hjl]
      rw [hg0] at htk
      have hjL : ((ms.map stripMm).take j).length = j := by simp; omega
      generalize (ms.map stripMm).take j = st at *
      generalize hv0 : ms.getD j jmnull = m0 at *
      obtain ⟨kk, v0, aa⟩ := m0
      rw [JM.wt] at hwt
      rw [stripMm] at htk
      simp -implicitDefEqProofs only [JM.enc, JM.cells, JV.len, take7a, take8a, List.append_assoc, getL, getL0, setL, setL0, List.set_cons_zero, List.set_cons_succ, f3, wset, tailW, tailEnd, isLenV, isOneV, vop, vbin, vbinI, vun, ↓reduceIte, Nat.reduceEqDiff, Nat.reduceAdd, vcells, vcut, cutSK, cutVK, cutNK, fillV, spl, Nat.reduceLeDiff, V.isNil, bne_self_eq_false]
      refine ih v0 (by omega) (by unfold big; omega) _ _ ?_
      simp -implicitDefEqProofs only [f1, f2, f3, f18, f19, f20, List.append_assoc, getL, getL0, setL, setL0, List.set_cons_zero, List.set_cons_succ, JV.enc, JV.len, wset, tailW, tailEnd, isLenV, isOneV, vop, vbin, vbinI, vun, ↓reduceIte, Nat.reduceEqDiff, Nat.reduceAdd, vcells, vcut, cutSK, cutVK, cutNK, fillV, spl, Nat.reduceLeDiff, V.isNil, bne_self_eq_false]
      refine ⟨fun x hx => by rw [List.mem_singleton.1 hx]; exact ⟨JM.len (.mk kk (stripJ v0) 0), rfl⟩, ?_⟩
      have eT : σ.toks.length + T1.length = (σ.toks ++ T1).length := by simp
      rw [eT]
      refine vapp_grow (T0 := σ.toks ++ T1) (U0 := σ.tts ++ U1) (encMs_cells st) (JM.len (.mk kk (stripJ v0) 0)) rfl (by rw [encMs_len]; unfold big; omega) (by simp) (by simp) hU1 ?_
      simp -implicitDefEqProofs only [f1, f2, f3, f18, f19, f20, List.append_assoc, getL, getL0, setL, setL0, List.set_cons_zero, List.set_cons_succ, grow_cells, grow_notTup, wset, tailW, tailEnd, isLenV, isOneV, vop, vbin, vbinI, vun, ↓reduceIte, Nat.reduceEqDiff, Nat.reduceAdd, vcells, vcut, cutSK, cutVK, cutNK, fillV, spl, Nat.reduceLeDiff, V.isNil, bne_self_eq_false]
      rw [wrap64 (by omega)]
      refine ⟨ms.length - (j + 1), by omega, j + 1, X ++ [V.str kk :: (v0.cells ++ [V.int IntKind.i64 aa])], Y ++ [45], by omega, rfl, by simp -implicitDefEqProofs only [f1, wset, tailW, tailEnd, isLenV, isOneV, vop, vbin, vbinI, vun, ↓reduceIte, Nat.reduceEqDiff, Nat.reduceAdd, vcells, vcut, cutSK, cutVK, cutNK, fillV, spl, Nat.reduceLeDiff, V.isNil, bne_self_eq_false], by simp -implicitDefEqProofs only [f2, wset, tailW, tailEnd, isLenV, isOneV, vop, vbin, vbinI, vun, ↓reduceIte, Nat.reduceEqDiff, Nat.reduceAdd, vcells, vcut, cutSK, cutVK, cutNK, fillV, spl, Nat.reduceLeDiff, V.isNil, bne_self_eq_false], by simp -implicitDefEqProofs only [f3, wset, tailW, tailEnd, isLenV, isOneV, vop, vbin, vbinI, vun, ↓reduceIte, Nat.reduceEqDiff, Nat.reduceAdd, vcells, vcut, cutSK, cutVK, cutNK, fillV, spl, Nat.reduceLeDiff, V.isNil, bne_self_eq_false], by simp -implicitDefEqProofs only [f18, wset, tailW, tailEnd, isLenV, isOneV, vop, vbin, vbinI, vun, ↓reduceIte, Nat.reduceEqDiff, Nat.reduceAdd, vcells, vcut, cutSK, cutVK, cutNK, fillV, spl, Nat.reduceLeDiff, V.isNil, bne_self_eq_false], by simp -implicitDefEqProofs only [f19, wset, tailW, tailEnd, isLenV, isOneV, vop, vbin, vbinI, vun, ↓reduceIte, Nat.reduceEqDiff, Nat.reduceAdd, vcells, vcut, cutSK, cutVK, cutNK, fillV, spl, Nat.reduceLeDiff, V.isNil, bne_self_eq_false], by simp -implicitDefEqProofs only [wset, tailW, tailEnd, isLenV, isOneV, vop, vbin, vbinI, vun, ↓reduceIte, Nat.reduceEqDiff, Nat.reduceAdd, vcells, vcut, cutSK, cutVK, cutNK, fillV, spl, Nat.reduceLeDiff, V.isNil, bne_self_eq_false]; rfl, ?_⟩
      rw [htk, encMs_snoc]
      simp [JM.cells]
    · have hj2 : j = ms.length := by simp at h2; omega
      rw [List.take_of_length_le (by simp; omega)]
      have hMc : cleanL σ.toks.length (encMs (ms.map stripMm)) = encMs (ms.map stripMm) := encMs_clean _ _
      have hMg := grow_clean (T := σ.toks.length + T1.length) (show σ.toks.length ≤ _ by omega) hMc
      generalize hI2 : grow (σ.toks.length + T1.length) (encMs (ms.map stripMm)) = I2 at *
      simp -implicitDefEqProofs only [f1, f2, f3, List.append_assoc, getL, getL0, setL, setL0, List.set_cons_zero, List.set_cons_succ, zero7, wset, tailW, tailEnd, isLenV, isOneV, vop, vbin, vbinI, vun, ↓reduceIte, Nat.reduceEqDiff, Nat.reduceAdd, vcells, vcut, cutSK, cutVK, cutNK, fillV, spl, Nat.reduceLeDiff, V.isNil, bne_self_eq_false]
      refine exitNewT (out' := .ret (JV.mk k b n s false (is.map stripJ) false (ms.map stripMm) 0).enc) hw ?_ ?_ h
      · simp [Out.clean, V.clean, cleanL, hLg, hMg, JV.enc, JV.cells]
      · simp [Out.fits, V.fits, JV.fits, JV.enc]
end Go.Proofs.YtgdcdkgmeomhpaaDoor

namespace Go.Proofs.YtgdcdkgmeomhpaaDoor
open Go Go.Vs
set_option maxRecDepth 20000
attribute [local irreducible] chooseK

def alive1 : JV := jv 5 false 0 [] [] [.mk [97] (jv 4 false 0 [] [jv 2 false 1 [] [] [] 7, jv 2 false (-20) [] [] [] 10] [] 6) 1] 0
def alive2 : JV := jv 4 false 0 [] [jv 2 false 1 [] [] [] 7, jv 2 false (-20) [] [] [] 10] [] 6
theorem c1 : alive1.cells = [.int .i64 5, .bool false, .int .i64 0, .str [], .slc false [] .no, .slc true [.agg [.str [97], .int .i64 4, .bool false, .int .i64 0, .str [], .slc true [.agg [.int .i64 2, .bool false, .int .i64 1, .str [], .slc false [] .no, .slc false [] .no, .int .i64 7], .agg [.int .i64 2, .bool false, .int .i64 (-20), .str [], .slc false [] .no, .slc false [] .no, .int .i64 10]] .no, .slc false [] .no, .int .i64 6, .int .i64 1]] .no, .int .i64 0] := by kernel_rfl
theorem c2 : alive2.cells = [.int .i64 4, .bool false, .int .i64 0, .str [], .slc true [.agg [.int .i64 2, .bool false, .int .i64 1, .str [], .slc false [] .no, .slc false [] .no, .int .i64 7], .agg [.int .i64 2, .bool false, .int .i64 (-20), .str [], .slc false [] .no, .slc false [] .no, .int .i64 10]] .no, .slc false [] .no, .int .i64 6] := by kernel_rfl
theorem parse_a1 : parseS [123, 34, 97, 34, 58, 32, 91, 49, 44, 32, 45, 50, 48, 93, 125] = .ok alive1 := by kernel_rfl
theorem parse_a2 : parseS [91, 48, 49, 93] = .error (1, 15) := by kernel_rfl
theorem parse_a3 : parseS [123, 34, 97, 34, 58, 49, 44, 34, 97, 34, 58, 50, 125] = .error (7, 10) := by kernel_rfl
theorem parse_a4 : parseS [91, 49, 44, 93] = .error (3, 7) := by kernel_rfl
theorem parseV_ok {s : List UInt8} {v : JV} (h : parseS s = .ok v) : parseV s = .tup [v.enc, .int .i64 (s.length : Int), .int .i64 0] := by rw [parseV, h]
theorem parseV_error {s : List UInt8} {x : Nat × Nat} (h : parseS s = .error x) : parseV s = .tup [jnull.enc, .int .i64 (x.1 : Int), .int .i64 (x.2 : Int)] := by rw [parseV, h]; rfl

theorem alive_C {σ : St} {Q : Out → St → Prop} (h : Q (.ret (.bool true)) σ) : C Xc 7 [] σ Q := by
  refine bodyW cf_law11alive (Eq.refl true) fun hw => ?_
  simp -implicitDefEqProofs only [vf_law11alive, wset, tailW, tailEnd, isLenV, isOneV, vop, vbin, vbinI, vun, ↓reduceIte, Nat.reduceEqDiff, Nat.reduceAdd, vcells, vcut, cutSK, cutVK, cutNK, fillV, spl, Nat.reduceLeDiff, V.isNil, bne_self_eq_false]
  refine parse_C (by decide) ?_
  rw [parseV_ok parse_a1]
  simp -implicitDefEqProofs only [JV.enc, JV.len, List.append_assoc, getL, getL0, setL, setL0, List.set_cons_zero, List.set_cons_succ, wset, tailW, tailEnd, isLenV, isOneV, vop, vbin, vbinI, vun, ↓reduceIte, Nat.reduceEqDiff, Nat.reduceAdd, vcells, vcut, cutSK, cutVK, cutNK, fillV, spl, Nat.reduceLeDiff, V.isNil, bne_self_eq_false]
  refine parse_C (by decide) ?_
  rw [parseV_error parse_a2]
  simp -implicitDefEqProofs only [JV.enc, JV.len, List.append_assoc, getL, getL0, setL, setL0, List.set_cons_zero, List.set_cons_succ, wset, tailW, tailEnd, isLenV, isOneV, vop, vbin, vbinI, vun, ↓reduceIte, Nat.reduceEqDiff, Nat.reduceAdd, vcells, vcut, cutSK, cutVK, cutNK, fillV, spl, Nat.reduceLeDiff, V.isNil, bne_self_eq_false]
  refine parse_C (by decide) ?_
  rw [parseV_error parse_a3]
  simp -implicitDefEqProofs only [JV.enc, JV.len, List.append_assoc, getL, getL0, setL, setL0, List.set_cons_zero, List.set_cons_succ, wset, tailW, tailEnd, isLenV, isOneV, vop, vbin, vbinI, vun, ↓reduceIte, Nat.reduceEqDiff, Nat.reduceAdd, vcells, vcut, cutSK, cutVK, cutNK, fillV, spl, Nat.reduceLeDiff, V.isNil, bne_self_eq_false]
  refine parse_C (by decide) ?_
  rw [parseV_error parse_a4]
  simp -implicitDefEqProofs only [JV.enc, JV.len, List.append_assoc, getL, getL0, setL, setL0, List.set_cons_zero, List.set_cons_succ, take7, wset, tailW, tailEnd, isLenV, isOneV, vop, vbin, vbinI, vun, ↓reduceIte, Nat.reduceEqDiff, Nat.reduceAdd, vcells, vcut, cutSK, cutVK, cutNK, fillV, spl, Nat.reduceLeDiff, V.isNil, bne_self_eq_false]
  refine get_C (v := alive1) (by decide) ?_
  have hg : getS alive1 [97] = some alive2 := by kernel_rfl
  rw [getV_some hg]
  have n15 : (((15 : Nat) : Int)) = 15 := rfl
  have n1 : (((1 : Nat) : Int)) = 1 := rfl
  have n2 : (((0 + 1 + 1 : Nat) : Int)) = 2 := rfl
  have n01 : (((0 + 1 : Nat) : Int)) = 1 := rfl
  have n3 : (((3 : Nat) : Int)) = 3 := rfl
  have n7 : (((7 : Nat) : Int)) = 7 := rfl
  have n10 : (((10 : Nat) : Int)) = 10 := rfl
  have q1 : (Int.toNat 0) = 0 := rfl
  have q2 : (Int.toNat 1) = 1 := rfl
  have q3 : ((0 : Int) ≤ 0) = True := by simp
  have q4 : ((0 : Int) < 1) = True := by simp
  have q5 : ((0 : Int) ≤ 1) = True := by simp
  have q6 : ((1 : Int) < 2) = True := by simp
  have b1 : ((15 : Int) != 15) = false := rfl
  have b2 : ((0 : Int) != 0) = false := rfl
  have b3 : ((1 : Int) != 1) = false := rfl
  have b4 : ((2 : Int) != 2) = false := rfl
  simp -implicitDefEqProofs only [JV.enc, JV.len, List.append_assoc, getL, getL0, setL, setL0, List.set_cons_zero, List.set_cons_succ, take7, c1, c2, b1, b2, b3, b4, Int.natCast_zero, n15, n1, n2, n01, n3, n7, n10, q1, q2, q3, q4, q5, q6, List.mem_cons, List.not_mem_nil, or_false, forall_eq_or_imp, forall_eq, beq_self_eq_true, wset, tailW, tailEnd, isLenV, isOneV, vop, vbin, vbinI, vun, ↓reduceIte, Nat.reduceEqDiff, Nat.reduceAdd, vcells, vcut, cutSK, cutVK, cutNK, fillV, spl, Nat.reduceLeDiff, V.isNil, bne_self_eq_false]
  refine depth_C _ alive1 (Nat.le_refl _) (by decide) _ _ ?_
  rw [show (alive1.depth : Int) = 3 from by kernel_rfl]
  simp -implicitDefEqProofs only [JV.enc, JV.len, List.append_assoc, getL, getL0, setL, setL0, List.set_cons_zero, List.set_cons_succ, take7, c1, c2, b1, b2, b3, b4, n15, n1, n2, n01, n3, n7, n10, beq_self_eq_true, wset, tailW, tailEnd, isLenV, isOneV, vop, vbin, vbinI, vun, ↓reduceIte, Nat.reduceEqDiff, Nat.reduceAdd, vcells, vcut, cutSK, cutVK, cutNK, fillV, spl, Nat.reduceLeDiff, V.isNil, bne_self_eq_false]
  refine strip_C _ alive1 (Nat.le_refl _) (by decide) _ _ ?_
  simp -implicitDefEqProofs only [JV.enc, JV.len, List.append_assoc, getL, getL0, setL, setL0, List.set_cons_zero, List.set_cons_succ, take7, c1, c2, wset, tailW, tailEnd, isLenV, isOneV, vop, vbin, vbinI, vun, ↓reduceIte, Nat.reduceEqDiff, Nat.reduceAdd, vcells, vcut, cutSK, cutVK, cutNK, fillV, spl, Nat.reduceLeDiff, V.isNil, bne_self_eq_false]
  refine equal_C _ alive1 (stripJ alive1) (Nat.le_refl _) (by decide) _ _ ?_
  rw [show eqJ false alive1 (stripJ alive1) = true from by kernel_rfl]
  simp -implicitDefEqProofs only [wset, tailW, tailEnd, isLenV, isOneV, vop, vbin, vbinI, vun, ↓reduceIte, Nat.reduceEqDiff, Nat.reduceAdd, vcells, vcut, cutSK, cutVK, cutNK, fillV, spl, Nat.reduceLeDiff, V.isNil, bne_self_eq_false]
  exact exitNew hw (by rfl) (by rfl) h
end Go.Proofs.YtgdcdkgmeomhpaaDoor

namespace Go.Proofs.YtgdcdkgmeomhpaaDoor
open Go Go.Vs

/-- What digits spell, behind a number. -/
def digN : List UInt8 → Nat → Option Nat
  | [], u => some u
  | c :: r, u => if 48 ≤ c.toNat ∧ c.toNat ≤ 57 then digN r (u * 10 + (c.toNat - 48)) else none

theorem digN_ge : ∀ {l : List UInt8} {a u : Nat}, digN l a = some u → a * 10 ^ l.length ≤ u
  | [], a, u, h => by simp only [digN, Option.some.injEq] at h; simp; omega
  | c :: r, a, u, h => by
    rw [digN] at h
    split at h
    · have := digN_ge h
      simp only [List.length_cons, Nat.pow_succ]
      have e : a * (10 ^ r.length * 10) = a * 10 * 10 ^ r.length := by rw [Nat.mul_comm (10 ^ r.length) 10, Nat.mul_assoc]
      rw [e]
      refine Nat.le_trans (Nat.mul_le_mul_right _ (by omega)) this
    · cases h
theorem digN_lt : ∀ {l : List UInt8} {a u : Nat}, digN l a = some u → u < (a + 1) * 10 ^ l.length
  | [], a, u, h => by simp only [digN, Option.some.injEq] at h; simp; omega
  | c :: r, a, u, h => by
    rw [digN] at h
    split at h
    · have := digN_lt h
      simp only [List.length_cons, Nat.pow_succ]
      have e : (a + 1) * (10 ^ r.length * 10) = (a + 1) * 10 * 10 ^ r.length := by rw [Nat.mul_comm (10 ^ r.length) 10, Nat.mul_assoc]
      rw [e]
      exact Nat.lt_of_lt_of_le this (Nat.mul_le_mul_right _ (by omega))
    · cases h
theorem digN_le {l : List UInt8} {a u : Nat} (h : digN l a = some u) : a ≤ u := by
  have := digN_ge h
  have hp : 0 < 10 ^ l.length := Nat.pow_pos (by omega)
  exact Nat.le_trans (Nat.le_mul_of_pos_right _ hp) this

theorem uint_ok : ∀ (l : List UInt8) (a : Nat), a ≤ 18446744073709551615 → ∀ u, Lib.parseUintM 18446744073709551615 a l = .ok u ↔ (digN l a = some u ∧ u ≤ 18446744073709551615)
  | [], a, ha, u => by
    simp only [Lib.parseUintM, digN, Lib.NumEnd.ok.injEq, Option.some.injEq]
    constructor
    · rintro rfl; exact ⟨rfl, ha⟩
    · rintro ⟨rfl, _⟩; rfl
  | c :: r, a, ha, u => by
    rw [Lib.parseUintM, digN]
    split
    · split
      · simp only [reduceCtorEq, false_iff, not_and]
        intro h
        have := digN_le h
        omega
      · split
        · simp only [reduceCtorEq, false_iff, not_and]
          intro h
          have := digN_le h
          omega
        · exact uint_ok r _ (by omega) u
    · simp

/-- The digits of a number, behind its sign. -/
def numD (s : List UInt8) : List UInt8 := if s ≠ [] ∧ bN s 0 = 45 then s.drop 1 else s
/-- The number as the reference reads it. -/
def numR (s : List UInt8) : Option Int :=
  if numD s = [] ∨ 19 < (numD s).length ∨ (1 < (numD s).length ∧ bN (numD s) 0 = 48) then none
  else match digN (numD s) 0 with
    | none => none
    | some u => if (numD s).length < s.length then (if u ≤ 9223372036854775808 then some (-(u : Int)) else none) else if u < 9223372036854775808 then some (u : Int) else none

theorem pow19 : 10 ^ 19 = 10000000000000000000 := by decide
theorem digN_long {d : List UInt8} {u : Nat} (h : digN d 0 = some u) (hl : 19 < d.length) (h0 : bN d 0 ≠ 48) : 10 ^ 19 ≤ u := by
  cases d with
  | nil => simp at hl
  | cons c r =>
    rw [digN] at h
    split at h
    · have := digN_ge h
      have hc : 1 ≤ 0 * 10 + (c.toNat - 48) := by
        have : bN (c :: r) 0 = c.toNat := rfl
        omega
      have hp : 10 ^ 19 ≤ 10 ^ r.length := Nat.pow_le_pow_right (by omega) (by simp at hl; omega)
      exact Nat.le_trans hp (Nat.le_trans (Nat.le_mul_of_pos_left _ hc) this)
    · cases h
theorem digN_short {d : List UInt8} {u : Nat} (h : digN d 0 = some u) (hl : d.length ≤ 19) : u < 10 ^ 19 := by
  have := digN_lt h
  have hp : 10 ^ d.length ≤ 10 ^ 19 := Nat.pow_le_pow_right (by omega) hl
  omega

/-- Digits behind the sign: what ParseUint says of them, but for a leading zero. -/
theorem uintB_num {d : List UInt8} (h0 : ¬ (bN d 0 = 48 ∧ 1 < d.length)) (B : Nat) (hB : B ≤ 9223372036854775808) (f : Nat → Option Int) :
    (match Lib.parseUintB 64 d with | .ok u => if u ≤ B then f u else none | _ => none) =
      (if d = [] ∨ 19 < d.length ∨ (1 < d.length ∧ bN d 0 = 48) then none else match digN d 0 with | none => none | some u => if u ≤ B then f u else none) := by
  rw [Lib.parseUintB]
  by_cases hd : d = []
  · subst hd; simp
  rw [if_neg hd]
  have hk := uint_ok d 0 (by omega)
  have e64 : 2 ^ 64 - 1 = 18446744073709551615 := by decide
  rw [e64]
  by_cases hl : 19 < d.length
  · rw [if_pos (by simp [hl])]
    cases hu : Lib.parseUintM 18446744073709551615 0 d with
    | ok u =>
      have := ((hk u).1 hu).1
      have := digN_long this hl (fun e => h0 ⟨e, by omega⟩)
      rw [pow19] at this
      simp only
      rw [if_neg (by omega)]
    | _ => rfl
  · rw [if_neg (fun h => h.elim hd fun h => h.elim hl fun h => h0 ⟨h.2, h.1⟩)]
    cases hg : digN d 0 with
    | none =>
      cases hu : Lib.parseUintM 18446744073709551615 0 d with
      | ok u => rw [((hk u).1 hu).1] at hg; cases hg
      | _ => rfl
    | some u =>
      have := digN_short hg (by omega)
      rw [pow19] at this
      rw [(hk u).2 ⟨hg, by omega⟩]

theorem numS_numR (s : List UInt8) : numS s = numR s := by
  cases s with
  | nil => rfl
  | cons c r =>
    have hb : bN (c :: r) 0 = c.toNat := rfl
    have hpre : hasPre (c :: r) [45] = true ↔ c.toNat = 45 := by
      simp only [hasPre, List.length_cons, List.length_nil, Nat.zero_add, List.take_succ_cons, List.take_zero]
      constructor
      · intro h; have : c = 45 := by simpa using h
        rw [this]; rfl
      · intro h; have : c = 45 := UInt8.toNat_inj.1 h
        rw [this]; rfl
    unfold numS numR
    have e63 : 2 ^ (64 - 1) = 9223372036854775808 := by decide
    by_cases h45 : c.toNat = 45
    · have hc : c = 45 := UInt8.toNat_inj.1 h45
      subst hc
      rw [Lib.parseIntB_minus, e63]
      have hp : hasPre (45 :: r) [45] = true := hpre.2 rfl
      have hd : numD ((45 : UInt8) :: r) = r := by rw [numD, if_pos ⟨by simp, rfl⟩]; rfl
      have h43 : ¬ bN ((45 : UInt8) :: r) 0 = 43 := by rw [hb]; decide
      simp only [hp, if_true, hd, List.drop_succ_cons, List.drop_zero, h43, false_or]
      by_cases h0 : bN r 0 = 48 ∧ 1 < r.length
      · rw [if_pos (.inr (.inr ⟨h0.2, h0.1⟩))]
        cases Lib.signedC 9223372036854775808 (Lib.parseUintB 64 r) with
        | ok v => simp only [h0, and_self, if_true]
        | _ => rfl
      · have := uintB_num h0 9223372036854775808 (Nat.le_refl _) (fun u => some (-(u : Int)))
        simp only [List.length_cons, Nat.lt_succ_self, if_true]
        rw [← this]
        cases Lib.parseUintB 64 r with
        | ok u =>
          simp only [Lib.signedC]
          by_cases hu : 9223372036854775808 < u
          · rw [if_pos hu, if_neg (by omega)]
          · rw [if_neg hu, if_pos (by omega)]
            simp only [h0, if_false]
        | _ => rfl
    · have hp : hasPre (c :: r) [45] = false := by rw [← Bool.not_eq_true]; exact fun h => h45 (hpre.1 h)
      have hd : numD (c :: r) = c :: r := by rw [numD, if_neg (by rw [hb]; exact fun h => h45 h.2)]
      simp only [hp, Bool.false_eq_true, if_false, hd, Nat.lt_irrefl]
      by_cases h43 : c.toNat = 43
      · have hc : c = 43 := UInt8.toNat_inj.1 h43
        subst hc
        have h43 : bN ((43 : UInt8) :: r) 0 = 43 := rfl
        have hdg : digN ((43 : UInt8) :: r) 0 = none := by rw [digN, if_neg (by decide)]
        simp only [h43, true_or, if_true, hdg]
        cases Lib.parseIntB 64 (43 :: r) <;> simp
      · rw [Lib.parseIntB_plain 64 c r h43 h45, e63]
        simp only [hb, h43, false_or]
        by_cases h0 : c.toNat = 48 ∧ 1 < (c :: r).length
        · rw [if_pos (.inr (.inr ⟨h0.2, h0.1⟩))]
          cases Lib.signlessC 9223372036854775808 (Lib.parseUintB 64 (c :: r)) with
          | ok v => exact if_pos h0
          | _ => rfl
        · have := uintB_num (d := c :: r) h0 9223372036854775807 (by decide) (fun u => some (u : Int))
          have e : ∀ u : Nat, (u < 9223372036854775808) = (u ≤ 9223372036854775807) := fun u => propext (by omega)
          simp only [e]
          rw [hb] at this
          rw [← this]
          cases Lib.parseUintB 64 (c :: r) with
          | ok u =>
            simp only [Lib.signlessC]
            by_cases hu : 9223372036854775808 ≤ u
            · rw [if_pos hu, if_neg (by omega)]
            · rw [if_neg hu, if_pos (by omega)]
              simp only [h0, if_false]
          | _ => rfl
end Go.Proofs.YtgdcdkgmeomhpaaDoor

namespace Go.Proofs.YtgdcdkgmeomhpaaDoor
open Go Go.Vs
set_option maxRecDepth 20000
attribute [local irreducible] chooseK

theorem wrapu64 {n : Nat} (h : n < 18446744073709551616) : IntKind.wrap .u64 (n : Int) = (n : Int) := by
  simp only [IntKind.wrap, IntKind.signed, IntKind.bits]
  simp
  omega

theorem step64 {u c : Nat} (hu : u < 1000000000000000000) (h1 : 48 ≤ c) (h2 : c ≤ 57) : IntKind.wrap .u64 (IntKind.wrap .u64 ((u : Int) * 10) + IntKind.wrap .u64 (IntKind.wrap .u8 ((c : Int) - 48))) = ((u * 10 + (c - 48) : Nat) : Int) := by
  have e1 : ((c : Int) - 48) = ((c - 48 : Nat) : Int) := by omega
  have e2 : ((u : Int) * 10) = ((u * 10 : Nat) : Int) := by omega
  rw [e1, e2, wrapu8, Nat.mod_eq_of_lt (by omega), wrapu64 (by omega), wrapu64 (by omega), ← Int.natCast_add, wrapu64 (by omega)]
theorem neg64 {u : Nat} (hu : u ≤ 9223372036854775808) : IntKind.wrap .i64 (IntKind.wrap .u64 (0 - (u : Int))) = -(u : Int) := by
  simp only [IntKind.wrap, IntKind.signed, IntKind.bits]
  simp
  omega
theorem pos64 {u : Nat} (hu : u < 9223372036854775808) : IntKind.wrap .i64 (u : Int) = (u : Int) := wrap64 (by omega)

/-- The digits from place j on, behind what those before spell. -/
theorem digN_step {d : List UInt8} {j u : Nat} (h : j < d.length) : digN (d.drop j) u = if 48 ≤ bN d j ∧ bN d j ≤ 57 then digN (d.drop (j + 1)) (u * 10 + (bN d j - 48)) else none := by
  rw [drop_getD 0 h, digN]
  rfl



theorem refNumber_C {s : List UInt8} {σ : St} {Q : Out → St → Prop} (hs : s.length ≤ big)
    (h : match numR s with | some v => Q (.ret (.tup [.int .i64 v, .bool true])) σ | none => ∀ n, Q (.ret (.tup [.int .i64 n, .bool false])) σ) : C Xc 17 [.str s] σ Q := by
  have hs' := hs
  unfold big at hs'
  unfold numR at h
  refine body cf_refNumber (Eq.refl true) ?_
  have t0 : Int.toNat 0 = 0 := rfl
  have t1 : Int.toNat 1 = 1 := rfl
  simp -implicitDefEqProofs only [vf_refNumber, wset, tailW, tailEnd, isLenV, isOneV, vop, vbin, vbinI, vun, ↓reduceIte, Nat.reduceEqDiff, Nat.reduceAdd, vcells, vcut, cutSK, cutVK, cutNK, fillV, spl, Nat.reduceLeDiff, V.isNil, bne_self_eq_false]
  by_cases h0 : s = []
  · have hD : numD s = s := by rw [h0]; rfl
    have e : (s == []) = true := by simp [h0]
    simp -implicitDefEqProofs only [e, wset, tailW, tailEnd, isLenV, isOneV, vop, vbin, vbinI, vun, ↓reduceIte, Nat.reduceEqDiff, Nat.reduceAdd, vcells, vcut, cutSK, cutVK, cutNK, fillV, spl, Nat.reduceLeDiff, V.isNil, bne_self_eq_false]
    rw [if_pos (.inl (hD.trans h0))] at h
    exact .inl (h 0)
  have e : (s == []) = false := by simp [h0]
  have hpos : 0 < s.length := List.length_pos_iff.2 h0
  simp -implicitDefEqProofs only [e, t0, wset, tailW, tailEnd, isLenV, isOneV, vop, vbin, vbinI, vun, ↓reduceIte, Nat.reduceEqDiff, Nat.reduceAdd, vcells, vcut, cutSK, cutVK, cutNK, fillV, spl, Nat.reduceLeDiff, V.isNil, bne_self_eq_false]
  refine ⟨by omega, ?_⟩
  have hi0 : ((s.getD 0 0).toNat : Int) = (bN s 0 : Int) := rfl
  refine chooseK_split (fun h4 => ?_) (fun h4 => ?_) <;> simp -implicitDefEqProofs only [h4, cut_drop, t1, wset, tailW, tailEnd, isLenV, isOneV, vop, vbin, vbinI, vun, ↓reduceIte, Nat.reduceEqDiff, Nat.reduceAdd, vcells, vcut, cutSK, cutVK, cutNK, fillV, spl, Nat.reduceLeDiff, V.isNil, bne_self_eq_false]
  · refine ⟨by omega, ?_⟩
    have hD : numD s = s.drop 1 := by rw [numD, if_pos ⟨h0, by rw [hi0] at h4; simp at h4; omega⟩]
    have hDl : (s.drop 1).length ≤ s.length := by simp
    rw [hD] at h
    generalize s.drop 1 = d at *
    refine chooseK_split (fun h1 => ?_) (fun h1 => ?_) <;> simp -implicitDefEqProofs only [h1, wset, tailW, tailEnd, isLenV, isOneV, vop, vbin, vbinI, vun, ↓reduceIte, Nat.reduceEqDiff, Nat.reduceAdd, vcells, vcut, cutSK, cutVK, cutNK, fillV, spl, Nat.reduceLeDiff, V.isNil, bne_self_eq_false]
    · have : d = [] := by simpa using h1
      rw [if_pos (.inl (by exact this))] at h
      exact .inl (h 0)
    have hne : d ≠ [] := by simpa using h1
    refine chooseK_split (fun h2 => ?_) (fun h2 => ?_) <;> simp -implicitDefEqProofs only [h2, wset, tailW, tailEnd, isLenV, isOneV, vop, vbin, vbinI, vun, ↓reduceIte, Nat.reduceEqDiff, Nat.reduceAdd, vcells, vcut, cutSK, cutVK, cutNK, fillV, spl, Nat.reduceLeDiff, V.isNil, bne_self_eq_false]
    · rw [if_pos (.inr (.inl (by simp at h2; omega)))] at h
      exact .inl (h 0)
    refine chooseK_split (fun h3 => ?_) (fun h3 => ?_) <;> simp -implicitDefEqProofs only [h3, t0, wset, tailW, tailEnd, isLenV, isOneV, vop, vbin, vbinI, vun, ↓reduceIte, Nat.reduceEqDiff, Nat.reduceAdd, vcells, vcut, cutSK, cutVK, cutNK, fillV, spl, Nat.reduceLeDiff, V.isNil, bne_self_eq_false]
    · refine ⟨⟨by omega, by simp at h3; omega⟩, ?_⟩
      refine chooseK_split (fun h7 => ?_) (fun h7 => ?_) <;> simp -implicitDefEqProofs only [h7, wset, tailW, tailEnd, isLenV, isOneV, vop, vbin, vbinI, vun, ↓reduceIte, Nat.reduceEqDiff, Nat.reduceAdd, vcells, vcut, cutSK, cutVK, cutNK, fillV, spl, Nat.reduceLeDiff, V.isNil, bne_self_eq_false]
      · rw [if_pos (.inr (.inr ⟨by simp at h3; omega, by have e7 : ((d.getD 0 0).toNat : Int) = (bN d 0 : Int) := rfl; rw [e7] at h7; simp at h7; omega⟩))] at h
        exact .inl (h 0)
      have hnn : ¬ (d = [] ∨ 19 < d.length ∨ 1 < d.length ∧ bN d 0 = 48) := by
        have e7 : ((d.getD 0 0).toNat : Int) = (bN d 0 : Int) := rfl
        rw [e7] at h7
        simp at h7 h2
        rintro (h | h | h)
        · exact hne h
        · omega
        · omega
      rw [if_neg hnn] at h
      have hl19 : d.length ≤ 19 := by simp at h2; omega
      refine LoopP.intro (fun n fr σ' => ∃ (j u : Nat), j ≤ d.length ∧ n = d.length - j ∧ digN d 0 = digN (d.drop j) u ∧ u < 10 ^ j ∧ fr 0 = .str s ∧ fr 4 = .str d ∧ fr 5 = .int .u64 (u : Int) ∧ fr 6 = .int .i64 (j : Int) ∧ σ' = σ) d.length ?_ ?_
      · exact ⟨0, 0, by omega, by omega, by rw [List.drop_zero], by simp, by simp -implicitDefEqProofs only [wset, tailW, tailEnd, isLenV, isOneV, vop, vbin, vbinI, vun, ↓reduceIte, Nat.reduceEqDiff, Nat.reduceAdd, vcells, vcut, cutSK, cutVK, cutNK, fillV, spl, Nat.reduceLeDiff, V.isNil, bne_self_eq_false], by simp -implicitDefEqProofs only [wset, tailW, tailEnd, isLenV, isOneV, vop, vbin, vbinI, vun, ↓reduceIte, Nat.reduceEqDiff, Nat.reduceAdd, vcells, vcut, cutSK, cutVK, cutNK, fillV, spl, Nat.reduceLeDiff, V.isNil, bne_self_eq_false], by simp -implicitDefEqProofs only [Int.natCast_zero, wset, tailW, tailEnd, isLenV, isOneV, vop, vbin, vbinI, vun, ↓reduceIte, Nat.reduceEqDiff, Nat.reduceAdd, vcells, vcut, cutSK, cutVK, cutNK, fillV, spl, Nat.reduceLeDiff, V.isNil, bne_self_eq_false], by simp -implicitDefEqProofs only [Int.natCast_zero, wset, tailW, tailEnd, isLenV, isOneV, vop, vbin, vbinI, vun, ↓reduceIte, Nat.reduceEqDiff, Nat.reduceAdd, vcells, vcut, cutSK, cutVK, cutNK, fillV, spl, Nat.reduceLeDiff, V.isNil, bne_self_eq_false], rfl⟩
      rintro n fr σ' ⟨j, u, hj, rfl, hg, hu, f0, f4, f5, f6, rfl⟩
      simp -implicitDefEqProofs only [f0, f4, f5, f6, wset, tailW, tailEnd, isLenV, isOneV, vop, vbin, vbinI, vun, ↓reduceIte, Nat.reduceEqDiff, Nat.reduceAdd, vcells, vcut, cutSK, cutVK, cutNK, fillV, spl, Nat.reduceLeDiff, V.isNil, bne_self_eq_false]
      refine chooseK_split (fun h5 => ?_) (fun h5 => ?_) <;> simp -implicitDefEqProofs only [h5, f0, f4, f5, f6, wset, tailW, tailEnd, isLenV, isOneV, vop, vbin, vbinI, vun, ↓reduceIte, Nat.reduceEqDiff, Nat.reduceAdd, vcells, vcut, cutSK, cutVK, cutNK, fillV, spl, Nat.reduceLeDiff, V.isNil, bne_self_eq_false]
      · have hjl : j < d.length := by simp at h5; omega
        rw [digN_step hjl] at hg
        have hb : ((d.getD j 0).toNat : Int) = (bN d j : Int) := rfl
        rw [hb]
        have hb8 := bN_lt d j
        refine ⟨by omega, ?_⟩
        refine chooseK_split (fun h6 => ?_) (fun h6 => ?_) <;> simp -implicitDefEqProofs only [h6, f0, f4, f5, f6, wset, tailW, tailEnd, isLenV, isOneV, vop, vbin, vbinI, vun, ↓reduceIte, Nat.reduceEqDiff, Nat.reduceAdd, vcells, vcut, cutSK, cutVK, cutNK, fillV, spl, Nat.reduceLeDiff, V.isNil, bne_self_eq_false]
        · rw [if_neg (by simp at h6; omega)] at hg
          rw [hg] at h
          exact .inl (h 0)
        rw [hb]
        refine ⟨by omega, ?_⟩
        refine chooseK_split (fun h8 => ?_) (fun h8 => ?_) <;> simp -implicitDefEqProofs only [h8, f0, f4, f5, f6, wset, tailW, tailEnd, isLenV, isOneV, vop, vbin, vbinI, vun, ↓reduceIte, Nat.reduceEqDiff, Nat.reduceAdd, vcells, vcut, cutSK, cutVK, cutNK, fillV, spl, Nat.reduceLeDiff, V.isNil, bne_self_eq_false]
        · rw [if_neg (by simp at h8; omega)] at hg
          rw [hg] at h
          exact .inl (h 0)
        rw [if_pos (by simp at h6 h8; omega)] at hg
        have hp18 : 10 ^ j ≤ 10 ^ 18 := Nat.pow_le_pow_right (by omega) (by omega)
        have h18 : 10 ^ 18 = 1000000000000000000 := by decide
        refine ⟨by omega, ?_⟩
        rw [hb, step64 (by omega) (by simp at h6; omega) (by simp at h8; omega), wrap64 (by omega)]
        exact ⟨d.length - (j + 1), by omega, j + 1, u * 10 + (bN d j - 48), by omega, rfl, hg, by rw [Nat.pow_succ]; simp at h8; omega, by simp -implicitDefEqProofs only [f0, wset, tailW, tailEnd, isLenV, isOneV, vop, vbin, vbinI, vun, ↓reduceIte, Nat.reduceEqDiff, Nat.reduceAdd, vcells, vcut, cutSK, cutVK, cutNK, fillV, spl, Nat.reduceLeDiff, V.isNil, bne_self_eq_false], by simp -implicitDefEqProofs only [f4, wset, tailW, tailEnd, isLenV, isOneV, vop, vbin, vbinI, vun, ↓reduceIte, Nat.reduceEqDiff, Nat.reduceAdd, vcells, vcut, cutSK, cutVK, cutNK, fillV, spl, Nat.reduceLeDiff, V.isNil, bne_self_eq_false], by simp -implicitDefEqProofs only [wset, tailW, tailEnd, isLenV, isOneV, vop, vbin, vbinI, vun, ↓reduceIte, Nat.reduceEqDiff, Nat.reduceAdd, vcells, vcut, cutSK, cutVK, cutNK, fillV, spl, Nat.reduceLeDiff, V.isNil, bne_self_eq_false], by simp -implicitDefEqProofs only [wset, tailW, tailEnd, isLenV, isOneV, vop, vbin, vbinI, vun, ↓reduceIte, Nat.reduceEqDiff, Nat.reduceAdd, vcells, vcut, cutSK, cutVK, cutNK, fillV, spl, Nat.reduceLeDiff, V.isNil, bne_self_eq_false]; rfl, rfl⟩
      · have hj2 : j = d.length := by simp at h5; omega
        rw [List.drop_of_length_le (by omega), digN] at hg
        rw [hg] at h
        have hp19 : 10 ^ j ≤ 10 ^ 19 := Nat.pow_le_pow_right (by omega) (by omega)
        rw [pow19] at hp19
        simp only at h
        refine chooseK_split (fun h9 => ?_) (fun h9 => ?_) <;> simp -implicitDefEqProofs only [h9, f0, f4, f5, f6, wset, tailW, tailEnd, isLenV, isOneV, vop, vbin, vbinI, vun, ↓reduceIte, Nat.reduceEqDiff, Nat.reduceAdd, vcells, vcut, cutSK, cutVK, cutNK, fillV, spl, Nat.reduceLeDiff, V.isNil, bne_self_eq_false]
        · rw [if_pos (by have := of_decide_eq_true h9; omega)] at h
          by_cases hu9 : u ≤ 9223372036854775808
          · rw [if_pos hu9] at h
            rw [neg64 hu9, decide_eq_true (by omega)]
            exact .inl h
          · rw [if_neg hu9] at h
            rw [decide_eq_false (by omega)]
            exact .inl (h _)
        · rw [if_neg (by have := of_decide_eq_false h9; omega)] at h
          by_cases hu9 : u < 9223372036854775808
          · rw [if_pos hu9] at h
            rw [pos64 hu9, decide_eq_true (by omega)]
            exact .inl h
          · rw [if_neg hu9] at h
            rw [decide_eq_false (by omega)]
            exact .inl (h _)
    · have hnn : ¬ (d = [] ∨ 19 < d.length ∨ 1 < d.length ∧ bN d 0 = 48) := by
        simp at h2 h3
        rintro (h | h | h)
        · exact hne h
        · omega
        · omega
      rw [if_neg hnn] at h
      have hl19 : d.length ≤ 19 := by simp at h2; omega
      refine LoopP.intro (fun n fr σ' => ∃ (j u : Nat), j ≤ d.length ∧ n = d.length - j ∧ digN d 0 = digN (d.drop j) u ∧ u < 10 ^ j ∧ fr 0 = .str s ∧ fr 4 = .str d ∧ fr 5 = .int .u64 (u : Int) ∧ fr 6 = .int .i64 (j : Int) ∧ σ' = σ) d.length ?_ ?_
      · exact ⟨0, 0, by omega, by omega, by rw [List.drop_zero], by simp, by simp -implicitDefEqProofs only [wset, tailW, tailEnd, isLenV, isOneV, vop, vbin, vbinI, vun, ↓reduceIte, Nat.reduceEqDiff, Nat.reduceAdd, vcells, vcut, cutSK, cutVK, cutNK, fillV, spl, Nat.reduceLeDiff, V.isNil, bne_self_eq_false], by simp -implicitDefEqProofs only [wset, tailW, tailEnd, isLenV, isOneV, vop, vbin, vbinI, vun, ↓reduceIte, Nat.reduceEqDiff, Nat.reduceAdd, vcells, vcut, cutSK, cutVK, cutNK, fillV, spl, Nat.reduceLeDiff, V.isNil, bne_self_eq_false], by simp -implicitDefEqProofs only [Int.natCast_zero, wset, tailW, tailEnd, isLenV, isOneV, vop, vbin, vbinI, vun, ↓reduceIte, Nat.reduceEqDiff, Nat.reduceAdd, vcells, vcut, cutSK, cutVK, cutNK, fillV, spl, Nat.reduceLeDiff, V.isNil, bne_self_eq_false], by simp -implicitDefEqProofs only [Int.natCast_zero, wset, tailW, tailEnd, isLenV, isOneV, vop, vbin, vbinI, vun, ↓reduceIte, Nat.reduceEqDiff, Nat.reduceAdd, vcells, vcut, cutSK, cutVK, cutNK, fillV, spl, Nat.reduceLeDiff, V.isNil, bne_self_eq_false], rfl⟩
      rintro n fr σ' ⟨j, u, hj, rfl, hg, hu, f0, f4, f5, f6, rfl⟩
      simp -implicitDefEqProofs only [f0, f4, f5, f6, wset, tailW, tailEnd, isLenV, isOneV, vop, vbin, vbinI, vun, ↓reduceIte, Nat.reduceEqDiff, Nat.reduceAdd, vcells, vcut, cutSK, cutVK, cutNK, fillV, spl, Nat.reduceLeDiff, V.isNil, bne_self_eq_false]
      refine chooseK_split (fun h5 => ?_) (fun h5 => ?_) <;> simp -implicitDefEqProofs only [h5, f0, f4, f5, f6, wset, tailW, tailEnd, isLenV, isOneV, vop, vbin, vbinI, vun, ↓reduceIte, Nat.reduceEqDiff, Nat.reduceAdd, vcells, vcut, cutSK, cutVK, cutNK, fillV, spl, Nat.reduceLeDiff, V.isNil, bne_self_eq_false]
      · have hjl : j < d.length := by simp at h5; omega
        rw [digN_step hjl] at hg
        have hb : ((d.getD j 0).toNat : Int) = (bN d j : Int) := rfl
        rw [hb]
        have hb8 := bN_lt d j
        refine ⟨by omega, ?_⟩
        refine chooseK_split (fun h6 => ?_) (fun h6 => ?_) <;> simp -implicitDefEqProofs only [h6, f0, f4, f5, f6, wset, tailW, tailEnd, isLenV, isOneV, vop, vbin, vbinI, vun, ↓reduceIte, Nat.reduceEqDiff, Nat.reduceAdd, vcells, vcut, cutSK, cutVK, cutNK, fillV, spl, Nat.reduceLeDiff, V.isNil, bne_self_eq_false]
        · rw [if_neg (by simp at h6; omega)] at hg
          rw [hg] at h
          exact .inl (h 0)
        rw [hb]
        refine ⟨by omega, ?_⟩
        refine chooseK_split (fun h8 => ?_) (fun h8 => ?_) <;> simp -implicitDefEqProofs only [h8, f0, f4, f5, f6, wset, tailW, tailEnd, isLenV, isOneV, vop, vbin, vbinI, vun, ↓reduceIte, Nat.reduceEqDiff, Nat.reduceAdd, vcells, vcut, cutSK, cutVK, cutNK, fillV, spl, Nat.reduceLeDiff, V.isNil, bne_self_eq_false]
        · rw [if_neg (by simp at h8; omega)] at hg
          rw [hg] at h
          exact .inl (h 0)
        rw [if_pos (by simp at h6 h8; omega)] at hg
        have hp18 : 10 ^ j ≤ 10 ^ 18 := Nat.pow_le_pow_right (by omega) (by omega)
        have h18 : 10 ^ 18 = 1000000000000000000 := by decide
        refine ⟨by omega, ?_⟩
        rw [hb, step64 (by omega) (by simp at h6; omega) (by simp at h8; omega), wrap64 (by omega)]
        exact ⟨d.length - (j + 1), by omega, j + 1, u * 10 + (bN d j - 48), by omega, rfl, hg, by rw [Nat.pow_succ]; simp at h8; omega, by simp -implicitDefEqProofs only [f0, wset, tailW, tailEnd, isLenV, isOneV, vop, vbin, vbinI, vun, ↓reduceIte, Nat.reduceEqDiff, Nat.reduceAdd, vcells, vcut, cutSK, cutVK, cutNK, fillV, spl, Nat.reduceLeDiff, V.isNil, bne_self_eq_false], by simp -implicitDefEqProofs only [f4, wset, tailW, tailEnd, isLenV, isOneV, vop, vbin, vbinI, vun, ↓reduceIte, Nat.reduceEqDiff, Nat.reduceAdd, vcells, vcut, cutSK, cutVK, cutNK, fillV, spl, Nat.reduceLeDiff, V.isNil, bne_self_eq_false], by simp -implicitDefEqProofs only [wset, tailW, tailEnd, isLenV, isOneV, vop, vbin, vbinI, vun, ↓reduceIte, Nat.reduceEqDiff, Nat.reduceAdd, vcells, vcut, cutSK, cutVK, cutNK, fillV, spl, Nat.reduceLeDiff, V.isNil, bne_self_eq_false], by simp -implicitDefEqProofs only [wset, tailW, tailEnd, isLenV, isOneV, vop, vbin, vbinI, vun, ↓reduceIte, Nat.reduceEqDiff, Nat.reduceAdd, vcells, vcut, cutSK, cutVK, cutNK, fillV, spl, Nat.reduceLeDiff, V.isNil, bne_self_eq_false]; rfl, rfl⟩
      · have hj2 : j = d.length := by simp at h5; omega
        rw [List.drop_of_length_le (by omega), digN] at hg
        rw [hg] at h
        have hp19 : 10 ^ j ≤ 10 ^ 19 := Nat.pow_le_pow_right (by omega) (by omega)
        rw [pow19] at hp19
        simp only at h
        refine chooseK_split (fun h9 => ?_) (fun h9 => ?_) <;> simp -implicitDefEqProofs only [h9, f0, f4, f5, f6, wset, tailW, tailEnd, isLenV, isOneV, vop, vbin, vbinI, vun, ↓reduceIte, Nat.reduceEqDiff, Nat.reduceAdd, vcells, vcut, cutSK, cutVK, cutNK, fillV, spl, Nat.reduceLeDiff, V.isNil, bne_self_eq_false]
        · rw [if_pos (by have := of_decide_eq_true h9; omega)] at h
          by_cases hu9 : u ≤ 9223372036854775808
          · rw [if_pos hu9] at h
            rw [neg64 hu9, decide_eq_true (by omega)]
            exact .inl h
          · rw [if_neg hu9] at h
            rw [decide_eq_false (by omega)]
            exact .inl (h _)
        · rw [if_neg (by have := of_decide_eq_false h9; omega)] at h
          by_cases hu9 : u < 9223372036854775808
          · rw [if_pos hu9] at h
            rw [pos64 hu9, decide_eq_true (by omega)]
            exact .inl h
          · rw [if_neg hu9] at h
            rw [decide_eq_false (by omega)]
            exact .inl (h _)
  · have hD : numD s = s := by rw [numD, if_neg (fun e => by rw [hi0] at h4; simp at h4; omega)]
    rw [hD] at h
    have hDl : s.length ≤ s.length := Nat.le_refl _
    refine chooseK_split (fun h1 => ?_) (fun h1 => ?_) <;> simp -implicitDefEqProofs only [h1, wset, tailW, tailEnd, isLenV, isOneV, vop, vbin, vbinI, vun, ↓reduceIte, Nat.reduceEqDiff, Nat.reduceAdd, vcells, vcut, cutSK, cutVK, cutNK, fillV, spl, Nat.reduceLeDiff, V.isNil, bne_self_eq_false]
    · have : s = [] := by simpa using h1
      rw [if_pos (.inl (by exact this))] at h
      exact .inl (h 0)
    have hne : s ≠ [] := by simpa using h1
    refine chooseK_split (fun h2 => ?_) (fun h2 => ?_) <;> simp -implicitDefEqProofs only [h2, wset, tailW, tailEnd, isLenV, isOneV, vop, vbin, vbinI, vun, ↓reduceIte, Nat.reduceEqDiff, Nat.reduceAdd, vcells, vcut, cutSK, cutVK, cutNK, fillV, spl, Nat.reduceLeDiff, V.isNil, bne_self_eq_false]
    · rw [if_pos (.inr (.inl (by simp at h2; omega)))] at h
      exact .inl (h 0)
    refine chooseK_split (fun h3 => ?_) (fun h3 => ?_) <;> simp -implicitDefEqProofs only [h3, t0, wset, tailW, tailEnd, isLenV, isOneV, vop, vbin, vbinI, vun, ↓reduceIte, Nat.reduceEqDiff, Nat.reduceAdd, vcells, vcut, cutSK, cutVK, cutNK, fillV, spl, Nat.reduceLeDiff, V.isNil, bne_self_eq_false]
    · refine ⟨⟨by omega, by simp at h3; omega⟩, ?_⟩
      refine chooseK_split (fun h7 => ?_) (fun h7 => ?_) <;> simp -implicitDefEqProofs only [h7, wset, tailW, tailEnd, isLenV, isOneV, vop, vbin, vbinI, vun, ↓reduceIte, Nat.reduceEqDiff, Nat.reduceAdd, vcells, vcut, cutSK, cutVK, cutNK, fillV, spl, Nat.reduceLeDiff, V.isNil, bne_self_eq_false]
      · rw [if_pos (.inr (.inr ⟨by simp at h3; omega, by have e7 : ((s.getD 0 0).toNat : Int) = (bN s 0 : Int) := rfl; rw [e7] at h7; simp at h7; omega⟩))] at h
        exact .inl (h 0)
      have hnn : ¬ (s = [] ∨ 19 < s.length ∨ 1 < s.length ∧ bN s 0 = 48) := by
        have e7 : ((s.getD 0 0).toNat : Int) = (bN s 0 : Int) := rfl
        rw [e7] at h7
        simp at h7 h2
        rintro (h | h | h)
        · exact hne h
        · omega
        · omega
      rw [if_neg hnn] at h
      have hl19 : s.length ≤ 19 := by simp at h2; omega
      refine LoopP.intro (fun n fr σ' => ∃ (j u : Nat), j ≤ s.length ∧ n = s.length - j ∧ digN s 0 = digN (s.drop j) u ∧ u < 10 ^ j ∧ fr 0 = .str s ∧ fr 4 = .str s ∧ fr 5 = .int .u64 (u : Int) ∧ fr 6 = .int .i64 (j : Int) ∧ σ' = σ) s.length ?_ ?_
      · exact ⟨0, 0, by omega, by omega, by rw [List.drop_zero], by simp, by simp -implicitDefEqProofs only [wset, tailW, tailEnd, isLenV, isOneV, vop, vbin, vbinI, vun, ↓reduceIte, Nat.reduceEqDiff, Nat.reduceAdd, vcells, vcut, cutSK, cutVK, cutNK, fillV, spl, Nat.reduceLeDiff, V.isNil, bne_self_eq_false], by simp -implicitDefEqProofs only [wset, tailW, tailEnd, isLenV, isOneV, vop, vbin, vbinI, vun, ↓reduceIte, Nat.reduceEqDiff, Nat.reduceAdd, vcells, vcut, cutSK, cutVK, cutNK, fillV, spl, Nat.reduceLeDiff, V.isNil, bne_self_eq_false], by simp -implicitDefEqProofs only [Int.natCast_zero, wset, tailW, tailEnd, isLenV, isOneV, vop, vbin, vbinI, vun, ↓reduceIte, Nat.reduceEqDiff, Nat.reduceAdd, vcells, vcut, cutSK, cutVK, cutNK, fillV, spl, Nat.reduceLeDiff, V.isNil, bne_self_eq_false], by simp -implicitDefEqProofs only [Int.natCast_zero, wset, tailW, tailEnd, isLenV, isOneV, vop, vbin, vbinI, vun, ↓reduceIte, Nat.reduceEqDiff, Nat.reduceAdd, vcells, vcut, cutSK, cutVK, cutNK, fillV, spl, Nat.reduceLeDiff, V.isNil, bne_self_eq_false], rfl⟩
      rintro n fr σ' ⟨j, u, hj, rfl, hg, hu, f0, f4, f5, f6, rfl⟩
      simp -implicitDefEqProofs only [f0, f4, f5, f6, wset, tailW, tailEnd, isLenV, isOneV, vop, vbin, vbinI, vun, ↓reduceIte, Nat.reduceEqDiff, Nat.reduceAdd, vcells, vcut, cutSK, cutVK, cutNK, fillV, spl, Nat.reduceLeDiff, V.isNil, bne_self_eq_false]
      refine chooseK_split (fun h5 => ?_) (fun h5 => ?_) <;> simp -implicitDefEqProofs only [h5, f0, f4, f5, f6, wset, tailW, tailEnd, isLenV, isOneV, vop, vbin, vbinI, vun, ↓reduceIte, Nat.reduceEqDiff, Nat.reduceAdd, vcells, vcut, cutSK, cutVK, cutNK, fillV, spl, Nat.reduceLeDiff, V.isNil, bne_self_eq_false]
      · have hjl : j < s.length := by simp at h5; omega
        rw [digN_step hjl] at hg
        have hb : ((s.getD j 0).toNat : Int) = (bN s j : Int) := rfl
        rw [hb]
        have hb8 := bN_lt s j
        refine ⟨by omega, ?_⟩
        refine chooseK_split (fun h6 => ?_) (fun h6 => ?_) <;> simp -implicitDefEqProofs only [h6, f0, f4, f5, f6, wset, tailW, tailEnd, isLenV, isOneV, vop, vbin, vbinI, vun, ↓reduceIte, Nat.reduceEqDiff, Nat.reduceAdd, vcells, vcut, cutSK, cutVK, cutNK, fillV, spl, Nat.reduceLeDiff, V.isNil, bne_self_eq_false]
        · rw [if_neg (by simp at h6; omega)] at hg
          rw [hg] at h
          exact .inl (h 0)
        rw [hb]
        refine ⟨by omega, ?_⟩
        refine chooseK_split (fun h8 => ?_) (fun h8 => ?_) <;> simp -implicitDefEqProofs only [h8, f0, f4, f5, f6, wset, tailW, tailEnd, isLenV, isOneV, vop, vbin, vbinI, vun, ↓reduceIte, Nat.reduceEqDiff, Nat.reduceAdd, vcells, vcut, cutSK, cutVK, cutNK, fillV, spl, Nat.reduceLeDiff, V.isNil, bne_self_eq_false]
        · rw [if_neg (by simp at h8; omega)] at hg
          rw [hg] at h
          exact .inl (h 0)
        rw [if_pos (by simp at h6 h8; omega)] at hg
        have hp18 : 10 ^ j ≤ 10 ^ 18 := Nat.pow_le_pow_right (by omega) (by omega)
        have h18 : 10 ^ 18 = 1000000000000000000 := by decide
        refine ⟨by omega, ?_⟩
        rw [hb, step64 (by omega) (by simp at h6; omega) (by simp at h8; omega), wrap64 (by omega)]
        exact ⟨s.length - (j + 1), by omega, j + 1, u * 10 + (bN s j - 48), by omega, rfl, hg, by rw [Nat.pow_succ]; simp at h8; omega, by simp -implicitDefEqProofs only [f0, wset, tailW, tailEnd, isLenV, isOneV, vop, vbin, vbinI, vun, ↓reduceIte, Nat.reduceEqDiff, Nat.reduceAdd, vcells, vcut, cutSK, cutVK, cutNK, fillV, spl, Nat.reduceLeDiff, V.isNil, bne_self_eq_false], by simp -implicitDefEqProofs only [f4, wset, tailW, tailEnd, isLenV, isOneV, vop, vbin, vbinI, vun, ↓reduceIte, Nat.reduceEqDiff, Nat.reduceAdd, vcells, vcut, cutSK, cutVK, cutNK, fillV, spl, Nat.reduceLeDiff, V.isNil, bne_self_eq_false], by simp -implicitDefEqProofs only [wset, tailW, tailEnd, isLenV, isOneV, vop, vbin, vbinI, vun, ↓reduceIte, Nat.reduceEqDiff, Nat.reduceAdd, vcells, vcut, cutSK, cutVK, cutNK, fillV, spl, Nat.reduceLeDiff, V.isNil, bne_self_eq_false], by simp -implicitDefEqProofs only [wset, tailW, tailEnd, isLenV, isOneV, vop, vbin, vbinI, vun, ↓reduceIte, Nat.reduceEqDiff, Nat.reduceAdd, vcells, vcut, cutSK, cutVK, cutNK, fillV, spl, Nat.reduceLeDiff, V.isNil, bne_self_eq_false]; rfl, rfl⟩
      · have hj2 : j = s.length := by simp at h5; omega
        rw [List.drop_of_length_le (by omega), digN] at hg
        rw [hg] at h
        have hp19 : 10 ^ j ≤ 10 ^ 19 := Nat.pow_le_pow_right (by omega) (by omega)
        rw [pow19] at hp19
        simp only at h
        refine chooseK_split (fun h9 => ?_) (fun h9 => ?_) <;> simp -implicitDefEqProofs only [h9, f0, f4, f5, f6, wset, tailW, tailEnd, isLenV, isOneV, vop, vbin, vbinI, vun, ↓reduceIte, Nat.reduceEqDiff, Nat.reduceAdd, vcells, vcut, cutSK, cutVK, cutNK, fillV, spl, Nat.reduceLeDiff, V.isNil, bne_self_eq_false]
        · rw [if_pos (by have := of_decide_eq_true h9; omega)] at h
          by_cases hu9 : u ≤ 9223372036854775808
          · rw [if_pos hu9] at h
            rw [neg64 hu9, decide_eq_true (by omega)]
            exact .inl h
          · rw [if_neg hu9] at h
            rw [decide_eq_false (by omega)]
            exact .inl (h _)
        · rw [if_neg (by have := of_decide_eq_false h9; omega)] at h
          by_cases hu9 : u < 9223372036854775808
          · rw [if_pos hu9] at h
            rw [pos64 hu9, decide_eq_true (by omega)]
            exact .inl h
          · rw [if_neg hu9] at h
            rw [decide_eq_false (by omega)]
            exact .inl (h _)
    · have hnn : ¬ (s = [] ∨ 19 < s.length ∨ 1 < s.length ∧ bN s 0 = 48) := by
        simp at h2 h3
        rintro (h | h | h)
        · exact hne h
        · omega
        · omega
      rw [if_neg hnn] at h
      have hl19 : s.length ≤ 19 := by simp at h2; omega
      refine LoopP.intro (fun n fr σ' => ∃ (j u : Nat), j ≤ s.length ∧ n = s.length - j ∧ digN s 0 = digN (s.drop j) u ∧ u < 10 ^ j ∧ fr 0 = .str s ∧ fr 4 = .str s ∧ fr 5 = .int .u64 (u : Int) ∧ fr 6 = .int .i64 (j : Int) ∧ σ' = σ) s.length ?_ ?_
      · exact ⟨0, 0, by omega, by omega, by rw [List.drop_zero], by simp, by simp -implicitDefEqProofs only [wset, tailW, tailEnd, isLenV, isOneV, vop, vbin, vbinI, vun, ↓reduceIte, Nat.reduceEqDiff, Nat.reduceAdd, vcells, vcut, cutSK, cutVK, cutNK, fillV, spl, Nat.reduceLeDiff, V.isNil, bne_self_eq_false], by simp -implicitDefEqProofs only [wset, tailW, tailEnd, isLenV, isOneV, vop, vbin, vbinI, vun, ↓reduceIte, Nat.reduceEqDiff, Nat.reduceAdd, vcells, vcut, cutSK, cutVK, cutNK, fillV, spl, Nat.reduceLeDiff, V.isNil, bne_self_eq_false], by simp -implicitDefEqProofs only [Int.natCast_zero, wset, tailW, tailEnd, isLenV, isOneV, vop, vbin, vbinI, vun, ↓reduceIte, Nat.reduceEqDiff, Nat.reduceAdd, vcells, vcut, cutSK, cutVK, cutNK, fillV, spl, Nat.reduceLeDiff, V.isNil, bne_self_eq_false], by simp -implicitDefEqProofs only [Int.natCast_zero, wset, tailW, tailEnd, isLenV, isOneV, vop, vbin, vbinI, vun, ↓reduceIte, Nat.reduceEqDiff, Nat.reduceAdd, vcells, vcut, cutSK, cutVK, cutNK, fillV, spl, Nat.reduceLeDiff, V.isNil, bne_self_eq_false], rfl⟩
      rintro n fr σ' ⟨j, u, hj, rfl, hg, hu, f0, f4, f5, f6, rfl⟩
      simp -implicitDefEqProofs only [f0, f4, f5, f6, wset, tailW, tailEnd, isLenV, isOneV, vop, vbin, vbinI, vun, ↓reduceIte, Nat.reduceEqDiff, Nat.reduceAdd, vcells, vcut, cutSK, cutVK, cutNK, fillV, spl, Nat.reduceLeDiff, V.isNil, bne_self_eq_false]
      refine chooseK_split (fun h5 => ?_) (fun h5 => ?_) <;> simp -implicitDefEqProofs only [h5, f0, f4, f5, f6, wset, tailW, tailEnd, isLenV, isOneV, vop, vbin, vbinI, vun, ↓reduceIte, Nat.reduceEqDiff, Nat.reduceAdd, vcells, vcut, cutSK, cutVK, cutNK, fillV, spl, Nat.reduceLeDiff, V.isNil, bne_self_eq_false]
      · have hjl : j < s.length := by simp at h5; omega
        rw [digN_step hjl] at hg
        have hb : ((s.getD j 0).toNat : Int) = (bN s j : Int) := rfl
        rw [hb]
        have hb8 := bN_lt s j
        refine ⟨by omega, ?_⟩
        refine chooseK_split (fun h6 => ?_) (fun h6 => ?_) <;> simp -implicitDefEqProofs only [h6, f0, f4, f5, f6, wset, tailW, tailEnd, isLenV, isOneV, vop, vbin, vbinI, vun, ↓reduceIte, Nat.reduceEqDiff, Nat.reduceAdd, vcells, vcut, cutSK, cutVK, cutNK, fillV, spl, Nat.reduceLeDiff, V.isNil, bne_self_eq_false]
        · rw [if_neg (by simp at h6; omega)] at hg
          rw [hg] at h
          exact .inl (h 0)
        rw [hb]
        refine ⟨by omega, ?_⟩
        refine chooseK_split (fun h8 => ?_) (fun h8 => ?_) <;> simp -implicitDefEqProofs only [h8, f0, f4, f5, f6, wset, tailW, tailEnd, isLenV, isOneV, vop, vbin, vbinI, vun, ↓reduceIte, Nat.reduceEqDiff, Nat.reduceAdd, vcells, vcut, cutSK, cutVK, cutNK, fillV, spl, Nat.reduceLeDiff, V.isNil, bne_self_eq_false]
        · rw [if_neg (by simp at h8; omega)] at hg
          rw [hg] at h
          exact .inl (h 0)
        rw [if_pos (by simp at h6 h8; omega)] at hg
        have hp18 : 10 ^ j ≤ 10 ^ 18 := Nat.pow_le_pow_right (by omega) (by omega)
        have h18 : 10 ^ 18 = 1000000000000000000 := by decide
        refine ⟨by omega, ?_⟩
        rw [hb, step64 (by omega) (by simp at h6; omega) (by simp at h8; omega), wrap64 (by omega)]
        exact ⟨s.length - (j + 1), by omega, j + 1, u * 10 + (bN s j - 48), by omega, rfl, hg, by rw [Nat.pow_succ]; simp at h8; omega, by simp -implicitDefEqProofs only [f0, wset, tailW, tailEnd, isLenV, isOneV, vop, vbin, vbinI, vun, ↓reduceIte, Nat.reduceEqDiff, Nat.reduceAdd, vcells, vcut, cutSK, cutVK, cutNK, fillV, spl, Nat.reduceLeDiff, V.isNil, bne_self_eq_false], by simp -implicitDefEqProofs only [f4, wset, tailW, tailEnd, isLenV, isOneV, vop, vbin, vbinI, vun, ↓reduceIte, Nat.reduceEqDiff, Nat.reduceAdd, vcells, vcut, cutSK, cutVK, cutNK, fillV, spl, Nat.reduceLeDiff, V.isNil, bne_self_eq_false], by simp -implicitDefEqProofs only [wset, tailW, tailEnd, isLenV, isOneV, vop, vbin, vbinI, vun, ↓reduceIte, Nat.reduceEqDiff, Nat.reduceAdd, vcells, vcut, cutSK, cutVK, cutNK, fillV, spl, Nat.reduceLeDiff, V.isNil, bne_self_eq_false], by simp -implicitDefEqProofs only [wset, tailW, tailEnd, isLenV, isOneV, vop, vbin, vbinI, vun, ↓reduceIte, Nat.reduceEqDiff, Nat.reduceAdd, vcells, vcut, cutSK, cutVK, cutNK, fillV, spl, Nat.reduceLeDiff, V.isNil, bne_self_eq_false]; rfl, rfl⟩
      · have hj2 : j = s.length := by simp at h5; omega
        rw [List.drop_of_length_le (by omega), digN] at hg
        rw [hg] at h
        have hp19 : 10 ^ j ≤ 10 ^ 19 := Nat.pow_le_pow_right (by omega) (by omega)
        rw [pow19] at hp19
        simp only at h
        refine chooseK_split (fun h9 => ?_) (fun h9 => ?_) <;> simp -implicitDefEqProofs only [h9, f0, f4, f5, f6, wset, tailW, tailEnd, isLenV, isOneV, vop, vbin, vbinI, vun, ↓reduceIte, Nat.reduceEqDiff, Nat.reduceAdd, vcells, vcut, cutSK, cutVK, cutNK, fillV, spl, Nat.reduceLeDiff, V.isNil, bne_self_eq_false]
        · rw [if_pos (by have := of_decide_eq_true h9; omega)] at h
          by_cases hu9 : u ≤ 9223372036854775808
          · rw [if_pos hu9] at h
            rw [neg64 hu9, decide_eq_true (by omega)]
            exact .inl h
          · rw [if_neg hu9] at h
            rw [decide_eq_false (by omega)]
            exact .inl (h _)
        · rw [if_neg (by have := of_decide_eq_false h9; omega)] at h
          by_cases hu9 : u < 9223372036854775808
          · rw [if_pos hu9] at h
            rw [pos64 hu9, decide_eq_true (by omega)]
            exact .inl h
          · rw [if_neg hu9] at h
            rw [decide_eq_false (by omega)]
            exact .inl (h _)
end Go.Proofs.YtgdcdkgmeomhpaaDoor

namespace Go.Proofs.YtgdcdkgmeomhpaaDoor
open Go Go.Vs
set_option maxRecDepth 20000
attribute [local irreducible] chooseK

/-- A digit from a byte. -/
def digB (c : UInt8) : UInt8 := UInt8.ofNat (48 + c.toNat % 10)
theorem digB_nat (c : UInt8) : (digB c).toNat = 48 + c.toNat % 10 := by
  have : 48 + c.toNat % 10 < 256 := by omega
  simp [digB, Nat.mod_eq_of_lt this]
theorem digB_i (c : UInt8) : IntKind.wrap .u8 (48 + (c.toNat : Int).tmod 10) = ((digB c).toNat : Int) := by
  have e : 48 + (c.toNat : Int).tmod 10 = ((48 + c.toNat % 10 : Nat) : Int) := by
    rw [Int.natCast_add, Int.natCast_emod]
    rfl
  rw [e, wrapu8, digB_nat, Nat.mod_eq_of_lt (by omega)]
theorem vbytes1 (c : UInt8) : vbytes [.int .u8 (c.toNat : Int)] = some [c] := vbytes_bytesV [c]
theorem bytesV_get {ds : List UInt8} {j : Nat} (h : j < ds.length) : (bytesV ds).getD j .und = .int .u8 ((ds.getD j 0).toNat : Int) := by
  simp [bytesV, List.getD_eq_getElem?_getD, List.getElem?_eq_getElem h]

def numPre (neg : Bool) : List UInt8 := if neg then [45] else []
def numStr (neg : Bool) (ds : List UInt8) : List UInt8 := numPre neg ++ ds.map digB

theorem takeWhile_all {p : UInt8 → Bool} : ∀ {s : List UInt8}, (∀ c ∈ s, p c = true) → s.takeWhile p = s
  | [], _ => rfl
  | c :: r, h => by rw [List.takeWhile_cons, if_pos (h c (by simp)), takeWhile_all fun d hd => h d (by simp [hd])]
theorem numT_all {s : List UInt8} (h : ∀ c ∈ s, numSet.contains c = true) : numT s = s := takeWhile_all h

theorem digB_set (c : UInt8) : numSet.contains (digB c) = true := by
  have := all_u8 (p := fun c => numSet.contains (digB c)) (by kernel_rfl) c
  exact this
theorem numStr_set (neg : Bool) (ds : List UInt8) : ∀ c ∈ numStr neg ds, numSet.contains c = true := by
  intro c hc
  rw [numStr, List.mem_append] at hc
  rcases hc with hc | hc
  · cases neg with
    | true => rw [List.mem_singleton.1 hc]; rfl
    | false => cases hc
  · obtain ⟨d, _, rfl⟩ := List.mem_map.1 hc
    exact digB_set d

theorem parse_num {s : List UInt8} (hs : s ≠ []) (hset : ∀ c ∈ s, numSet.contains c = true) (h0 : bN s 0 = 45 ∨ (48 ≤ bN s 0 ∧ bN s 0 ≤ 57)) :
    parseS s = match numR s with | some v => .ok (jv 2 false v [] [] [] 0) | none => .error (0, 15) := by
  obtain ⟨c, r, rfl⟩ : ∃ c r, s = c :: r := by cases s with | nil => exact absurd rfl hs | cons c r => exact ⟨c, r, rfl⟩
  have hb : bN (c :: r) 0 = c.toNat := rfl
  rw [hb] at h0
  have ne : ∀ d : UInt8, d.toNat ≠ 45 → ¬ (48 ≤ d.toNat ∧ d.toNat ≤ 57) → c ≠ d := fun d h1 h2 e => by subst e; rcases h0 with h | h; exact h1 h; exact h2 h
  have hpre : hasPre (c :: r) [239, 187, 191] = false := by
    have := ne 239 (by decide) (by decide)
    simp [hasPre, this]
  have hsp : spB c.toNat = false := by
    simp only [spB, Bool.or_eq_false_iff, beq_eq_false_iff_ne]
    omega
  have hsk : skipSp (c :: r) 0 = 0 := by rw [skipSp, List.drop_zero, List.takeWhile_cons, if_neg (by rw [hsp]; simp)]; rfl
  have hby : byteAt (c :: r) 0 = c := rfl
  have hv : valueS 100 (c :: r) 0 = match numR (c :: r) with | some v => .ok (jv 2 false v [] [] [] 0, (c :: r).length) | none => .error (0, 15) := by
    rw [valueS, valueF]
    simp only [hsk, hby, Bool.false_and, Bool.false_eq_true, if_false, ne 110 (by decide) (by decide), ne 116 (by decide) (by decide), ne 102 (by decide) (by decide), ne 34 (by decide) (by decide)]
    have hcc : c = 45 ∨ (48 ≤ c.toNat ∧ c.toNat ≤ 57) := h0.imp (fun h => UInt8.toNat_inj.1 h) id
    rw [if_pos hcc, List.drop_zero, numT_all hset, numS_numR]
    cases numR (c :: r) with
    | some v => simp
    | none => rfl
  unfold parseS
  rw [hpre]
  simp only [Bool.false_eq_true, if_false]
  rw [hv]
  cases numR (c :: r) with
  | some v =>
    have : skipSp (c :: r) (c :: r).length = (c :: r).length := by rw [skipSp, List.drop_of_length_le (Nat.le_refl _)]; rfl
    simp only [this, Nat.lt_irrefl, if_false]
  | none => rfl

theorem numStr_head (neg : Bool) (ds : List UInt8) : numStr neg ds ≠ [] → bN (numStr neg ds) 0 = 45 ∨ (48 ≤ bN (numStr neg ds) 0 ∧ bN (numStr neg ds) 0 ≤ 57) := by
  intro h
  cases neg with
  | true => exact .inl rfl
  | false =>
    cases ds with
    | nil => exact absurd rfl h
    | cons c r =>
      have : bN (numStr false (c :: r)) 0 = (digB c).toNat := rfl
      rw [this, digB_nat]
      omega


theorem law11Numbers_C {ds : List UInt8} {neg nn : Bool} {tk : Tk} {σ : St} {Q : Out → St → Prop} (h : Q (.ret (.bool true)) σ) : C Xc 4 [.slc nn (bytesV ds) tk, .bool neg] σ Q := by
  refine bodyW cf_law11Numbers (Eq.refl true) fun hw => ?_
  simp -implicitDefEqProofs only [vf_law11Numbers, bytesV_len, wset, tailW, tailEnd, isLenV, isOneV, vop, vbin, vbinI, vun, ↓reduceIte, Nat.reduceEqDiff, Nat.reduceAdd, vcells, vcut, cutSK, cutVK, cutNK, fillV, spl, Nat.reduceLeDiff, V.isNil, bne_self_eq_false]
  refine chooseK_split (fun h1 => ?_) (fun h1 => ?_) <;> simp -implicitDefEqProofs only [h1, bytesV_len, wset, tailW, tailEnd, isLenV, isOneV, vop, vbin, vbinI, vun, ↓reduceIte, Nat.reduceEqDiff, Nat.reduceAdd, vcells, vcut, cutSK, cutVK, cutNK, fillV, spl, Nat.reduceLeDiff, V.isNil, bne_self_eq_false]
  · refine alive_C ?_
    simp -implicitDefEqProofs only [wset, tailW, tailEnd, isLenV, isOneV, vop, vbin, vbinI, vun, ↓reduceIte, Nat.reduceEqDiff, Nat.reduceAdd, vcells, vcut, cutSK, cutVK, cutNK, fillV, spl, Nat.reduceLeDiff, V.isNil, bne_self_eq_false]
    exact .inl h
  have hl : ds.length ≤ 30 := by simp at h1; omega
  cases neg <;> simp -implicitDefEqProofs only [bytesV_len, wset, tailW, tailEnd, isLenV, isOneV, vop, vbin, vbinI, vun, ↓reduceIte, Nat.reduceEqDiff, Nat.reduceAdd, vcells, vcut, cutSK, cutVK, cutNK, fillV, spl, Nat.reduceLeDiff, V.isNil, bne_self_eq_false]
  · refine LoopP.intro (fun n fr σ' => ∃ (j : Nat), j ≤ ds.length ∧ n = ds.length - j ∧ fr 5 = .str (numPre false ++ (ds.take j).map digB) ∧ fr 18 = .slc nn (bytesV ds) tk ∧ fr 19 = .int .i64 (ds.length : Int) ∧ fr 20 = .int .i64 (j : Int) ∧ σ' = σ) ds.length ?_ ?_
    · exact ⟨0, by omega, by omega, by simp -implicitDefEqProofs only [List.take_zero, List.map_nil, List.append_nil, wset, tailW, tailEnd, isLenV, isOneV, vop, vbin, vbinI, vun, ↓reduceIte, Nat.reduceEqDiff, Nat.reduceAdd, vcells, vcut, cutSK, cutVK, cutNK, fillV, spl, Nat.reduceLeDiff, V.isNil, bne_self_eq_false]; first | done | rfl, by simp -implicitDefEqProofs only [wset, tailW, tailEnd, isLenV, isOneV, vop, vbin, vbinI, vun, ↓reduceIte, Nat.reduceEqDiff, Nat.reduceAdd, vcells, vcut, cutSK, cutVK, cutNK, fillV, spl, Nat.reduceLeDiff, V.isNil, bne_self_eq_false], by simp -implicitDefEqProofs only [wset, tailW, tailEnd, isLenV, isOneV, vop, vbin, vbinI, vun, ↓reduceIte, Nat.reduceEqDiff, Nat.reduceAdd, vcells, vcut, cutSK, cutVK, cutNK, fillV, spl, Nat.reduceLeDiff, V.isNil, bne_self_eq_false], by simp -implicitDefEqProofs only [Int.natCast_zero, wset, tailW, tailEnd, isLenV, isOneV, vop, vbin, vbinI, vun, ↓reduceIte, Nat.reduceEqDiff, Nat.reduceAdd, vcells, vcut, cutSK, cutVK, cutNK, fillV, spl, Nat.reduceLeDiff, V.isNil, bne_self_eq_false], rfl⟩
    rintro n fr σ' ⟨j, hj, rfl, f5, f18, f19, f20, rfl⟩
    simp -implicitDefEqProofs only [f5, f18, f19, f20, wset, tailW, tailEnd, isLenV, isOneV, vop, vbin, vbinI, vun, ↓reduceIte, Nat.reduceEqDiff, Nat.reduceAdd, vcells, vcut, cutSK, cutVK, cutNK, fillV, spl, Nat.reduceLeDiff, V.isNil, bne_self_eq_false]
    refine chooseK_split (fun h2 => ?_) (fun h2 => ?_) <;> simp -implicitDefEqProofs only [h2, f5, f18, f19, f20, bytesV_len, wset, tailW, tailEnd, isLenV, isOneV, vop, vbin, vbinI, vun, ↓reduceIte, Nat.reduceEqDiff, Nat.reduceAdd, vcells, vcut, cutSK, cutVK, cutNK, fillV, spl, Nat.reduceLeDiff, V.isNil, bne_self_eq_false]
    · have hjl : j < ds.length := by simp at h2; omega
      have htk := take_snoc (l := ds) 0 hjl
      refine ⟨by omega, fun y hy => (bytesV_cells ds y hy).1, ?_⟩
      rw [bytesV_get hjl]
      generalize hc : ds.getD j 0 = c at *
      simp -implicitDefEqProofs only [f5, f18, f19, f20, digB_i, vbytes1, wset, tailW, tailEnd, isLenV, isOneV, vop, vbin, vbinI, vun, ↓reduceIte, Nat.reduceEqDiff, Nat.reduceAdd, vcells, vcut, cutSK, cutVK, cutNK, fillV, spl, Nat.reduceLeDiff, V.isNil, bne_self_eq_false]
      refine ⟨by decide, fun x hx => by rw [List.mem_singleton.1 hx]; exact ⟨rfl, rfl⟩, ?_, ?_⟩
      · have e1 : (numPre false).length ≤ 1 := by decide
        have e2 : ((ds.take j).map digB).length = j := by simp; omega
        unfold big
        omega
      · rw [wrap64 (by omega)]
        exact ⟨ds.length - (j + 1), by omega, j + 1, by omega, rfl, by rw [htk]; simp; simp -implicitDefEqProofs only [wset, tailW, tailEnd, isLenV, isOneV, vop, vbin, vbinI, vun, ↓reduceIte, Nat.reduceEqDiff, Nat.reduceAdd, vcells, vcut, cutSK, cutVK, cutNK, fillV, spl, Nat.reduceLeDiff, V.isNil, bne_self_eq_false], by simp -implicitDefEqProofs only [f18, wset, tailW, tailEnd, isLenV, isOneV, vop, vbin, vbinI, vun, ↓reduceIte, Nat.reduceEqDiff, Nat.reduceAdd, vcells, vcut, cutSK, cutVK, cutNK, fillV, spl, Nat.reduceLeDiff, V.isNil, bne_self_eq_false], by simp -implicitDefEqProofs only [f19, wset, tailW, tailEnd, isLenV, isOneV, vop, vbin, vbinI, vun, ↓reduceIte, Nat.reduceEqDiff, Nat.reduceAdd, vcells, vcut, cutSK, cutVK, cutNK, fillV, spl, Nat.reduceLeDiff, V.isNil, bne_self_eq_false], by simp -implicitDefEqProofs only [wset, tailW, tailEnd, isLenV, isOneV, vop, vbin, vbinI, vun, ↓reduceIte, Nat.reduceEqDiff, Nat.reduceAdd, vcells, vcut, cutSK, cutVK, cutNK, fillV, spl, Nat.reduceLeDiff, V.isNil, bne_self_eq_false]; rfl, rfl⟩
    have hj2 : j = ds.length := by simp at h2; omega
    rw [List.take_of_length_le (by omega)]
    have hset := numStr_set false ds
    have hS : numPre false ++ List.map digB ds = numStr false ds := rfl
    have hlen : (numStr false ds).length ≤ 31 := by simp [numStr, numPre]; omega
    have h0 := numStr_head false ds
    rw [hj2, List.take_of_length_le (Nat.le_refl _), hS] at f5
    rw [hS]
    clear hS
    generalize numStr false ds = S at *
    refine parse_C (by unfold big; omega) ?_
    by_cases he : S = []
    · subst he
      rw [parseV_error (x := (0, 8)) (by kernel_rfl)]
      have e00 : (([] : List UInt8) == []) = true := rfl
      simp -implicitDefEqProofs only [JV.enc, JV.len, List.append_assoc, getL, getL0, setL, setL0, List.set_cons_zero, List.set_cons_succ, f5, e00, wset, tailW, tailEnd, isLenV, isOneV, vop, vbin, vbinI, vun, ↓reduceIte, Nat.reduceEqDiff, Nat.reduceAdd, vcells, vcut, cutSK, cutVK, cutNK, fillV, spl, Nat.reduceLeDiff, V.isNil, bne_self_eq_false]
      refine alive_C ?_
      have n8 : (((8 : Nat) : Int) == 8) = true := rfl
      simp -implicitDefEqProofs only [Int.natCast_zero, n8, beq_self_eq_true, wset, tailW, tailEnd, isLenV, isOneV, vop, vbin, vbinI, vun, ↓reduceIte, Nat.reduceEqDiff, Nat.reduceAdd, vcells, vcut, cutSK, cutVK, cutNK, fillV, spl, Nat.reduceLeDiff, V.isNil, bne_self_eq_false]
      exact exitNew hw (by rfl) (by rfl) h
    have he' : (S == []) = false := by simp [he]
    have hp := parse_num he hset (h0 he)
    cases hn : numR S with
    | none =>
      rw [hn] at hp
      rw [parseV_error hp]
      simp -implicitDefEqProofs only [JV.enc, JV.len, List.append_assoc, getL, getL0, setL, setL0, List.set_cons_zero, List.set_cons_succ, he', f5, wset, tailW, tailEnd, isLenV, isOneV, vop, vbin, vbinI, vun, ↓reduceIte, Nat.reduceEqDiff, Nat.reduceAdd, vcells, vcut, cutSK, cutVK, cutNK, fillV, spl, Nat.reduceLeDiff, V.isNil, bne_self_eq_false]
      refine refNumber_C (by unfold big; omega) ?_
      rw [hn]
      intro n
      simp -implicitDefEqProofs only [wset, tailW, tailEnd, isLenV, isOneV, vop, vbin, vbinI, vun, ↓reduceIte, Nat.reduceEqDiff, Nat.reduceAdd, vcells, vcut, cutSK, cutVK, cutNK, fillV, spl, Nat.reduceLeDiff, V.isNil, bne_self_eq_false]
      refine alive_C ?_
      have n8 : (((15 : Nat) : Int) == 15) = true := rfl
      simp -implicitDefEqProofs only [Int.natCast_zero, n8, beq_self_eq_true, wset, tailW, tailEnd, isLenV, isOneV, vop, vbin, vbinI, vun, ↓reduceIte, Nat.reduceEqDiff, Nat.reduceAdd, vcells, vcut, cutSK, cutVK, cutNK, fillV, spl, Nat.reduceLeDiff, V.isNil, bne_self_eq_false]
      exact exitNew hw (by rfl) (by rfl) h
    | some v =>
      rw [hn] at hp
      rw [parseV_ok hp]
      have hv : (jv 2 false v [] [] [] 0).cells = [.int .i64 2, .bool false, .int .i64 v, .str [], .slc false [] .no, .slc false [] .no, .int .i64 0] := by rfl
      simp -implicitDefEqProofs only [JV.enc, JV.len, List.append_assoc, getL, getL0, setL, setL0, List.set_cons_zero, List.set_cons_succ, he', f5, wset, tailW, tailEnd, isLenV, isOneV, vop, vbin, vbinI, vun, ↓reduceIte, Nat.reduceEqDiff, Nat.reduceAdd, vcells, vcut, cutSK, cutVK, cutNK, fillV, spl, Nat.reduceLeDiff, V.isNil, bne_self_eq_false]
      refine refNumber_C (by unfold big; omega) ?_
      rw [hn]
      simp -implicitDefEqProofs only [wset, tailW, tailEnd, isLenV, isOneV, vop, vbin, vbinI, vun, ↓reduceIte, Nat.reduceEqDiff, Nat.reduceAdd, vcells, vcut, cutSK, cutVK, cutNK, fillV, spl, Nat.reduceLeDiff, V.isNil, bne_self_eq_false]
      refine alive_C ?_
      simp -implicitDefEqProofs only [List.append_assoc, getL, getL0, setL, setL0, List.set_cons_zero, List.set_cons_succ, hv, f5, Int.natCast_zero, beq_self_eq_true, wset, tailW, tailEnd, isLenV, isOneV, vop, vbin, vbinI, vun, ↓reduceIte, Nat.reduceEqDiff, Nat.reduceAdd, vcells, vcut, cutSK, cutVK, cutNK, fillV, spl, Nat.reduceLeDiff, V.isNil, bne_self_eq_false]
      exact exitNew hw (by rfl) (by rfl) h
  · refine LoopP.intro (fun n fr σ' => ∃ (j : Nat), j ≤ ds.length ∧ n = ds.length - j ∧ fr 5 = .str (numPre true ++ (ds.take j).map digB) ∧ fr 18 = .slc nn (bytesV ds) tk ∧ fr 19 = .int .i64 (ds.length : Int) ∧ fr 20 = .int .i64 (j : Int) ∧ σ' = σ) ds.length ?_ ?_
    · exact ⟨0, by omega, by omega, by simp -implicitDefEqProofs only [List.take_zero, List.map_nil, List.append_nil, wset, tailW, tailEnd, isLenV, isOneV, vop, vbin, vbinI, vun, ↓reduceIte, Nat.reduceEqDiff, Nat.reduceAdd, vcells, vcut, cutSK, cutVK, cutNK, fillV, spl, Nat.reduceLeDiff, V.isNil, bne_self_eq_false]; first | done | rfl, by simp -implicitDefEqProofs only [wset, tailW, tailEnd, isLenV, isOneV, vop, vbin, vbinI, vun, ↓reduceIte, Nat.reduceEqDiff, Nat.reduceAdd, vcells, vcut, cutSK, cutVK, cutNK, fillV, spl, Nat.reduceLeDiff, V.isNil, bne_self_eq_false], by simp -implicitDefEqProofs only [wset, tailW, tailEnd, isLenV, isOneV, vop, vbin, vbinI, vun, ↓reduceIte, Nat.reduceEqDiff, Nat.reduceAdd, vcells, vcut, cutSK, cutVK, cutNK, fillV, spl, Nat.reduceLeDiff, V.isNil, bne_self_eq_false], by simp -implicitDefEqProofs only [Int.natCast_zero, wset, tailW, tailEnd, isLenV, isOneV, vop, vbin, vbinI, vun, ↓reduceIte, Nat.reduceEqDiff, Nat.reduceAdd, vcells, vcut, cutSK, cutVK, cutNK, fillV, spl, Nat.reduceLeDiff, V.isNil, bne_self_eq_false], rfl⟩
    rintro n fr σ' ⟨j, hj, rfl, f5, f18, f19, f20, rfl⟩
    simp -implicitDefEqProofs only [f5, f18, f19, f20, wset, tailW, tailEnd, isLenV, isOneV, vop, vbin, vbinI, vun, ↓reduceIte, Nat.reduceEqDiff, Nat.reduceAdd, vcells, vcut, cutSK, cutVK, cutNK, fillV, spl, Nat.reduceLeDiff, V.isNil, bne_self_eq_false]
    refine chooseK_split (fun h2 => ?_) (fun h2 => ?_) <;> simp -implicitDefEqProofs only [h2, f5, f18, f19, f20, bytesV_len, wset, tailW, tailEnd, isLenV, isOneV, vop, vbin, vbinI, vun, ↓reduceIte, Nat.reduceEqDiff, Nat.reduceAdd, vcells, vcut, cutSK, cutVK, cutNK, fillV, spl, Nat.reduceLeDiff, V.isNil, bne_self_eq_false]
    · have hjl : j < ds.length := by simp at h2; omega
      have htk := take_snoc (l := ds) 0 hjl
      refine ⟨by omega, fun y hy => (bytesV_cells ds y hy).1, ?_⟩
      rw [bytesV_get hjl]
      generalize hc : ds.getD j 0 = c at *
      simp -implicitDefEqProofs only [f5, f18, f19, f20, digB_i, vbytes1, wset, tailW, tailEnd, isLenV, isOneV, vop, vbin, vbinI, vun, ↓reduceIte, Nat.reduceEqDiff, Nat.reduceAdd, vcells, vcut, cutSK, cutVK, cutNK, fillV, spl, Nat.reduceLeDiff, V.isNil, bne_self_eq_false]
      refine ⟨by decide, fun x hx => by rw [List.mem_singleton.1 hx]; exact ⟨rfl, rfl⟩, ?_, ?_⟩
      · have e1 : (numPre true).length ≤ 1 := by decide
        have e2 : ((ds.take j).map digB).length = j := by simp; omega
        unfold big
        omega
      · rw [wrap64 (by omega)]
        exact ⟨ds.length - (j + 1), by omega, j + 1, by omega, rfl, by rw [htk]; simp; simp -implicitDefEqProofs only [wset, tailW, tailEnd, isLenV, isOneV, vop, vbin, vbinI, vun, ↓reduceIte, Nat.reduceEqDiff, Nat.reduceAdd, vcells, vcut, cutSK, cutVK, cutNK, fillV, spl, Nat.reduceLeDiff, V.isNil, bne_self_eq_false], by simp -implicitDefEqProofs only [f18, wset, tailW, tailEnd, isLenV, isOneV, vop, vbin, vbinI, vun, ↓reduceIte, Nat.reduceEqDiff, Nat.reduceAdd, vcells, vcut, cutSK, cutVK, cutNK, fillV, spl, Nat.reduceLeDiff, V.isNil, bne_self_eq_false], by simp -implicitDefEqProofs only [f19, wset, tailW, tailEnd, isLenV, isOneV, vop, vbin, vbinI, vun, ↓reduceIte, Nat.reduceEqDiff, Nat.reduceAdd, vcells, vcut, cutSK, cutVK, cutNK, fillV, spl, Nat.reduceLeDiff, V.isNil, bne_self_eq_false], by simp -implicitDefEqProofs only [wset, tailW, tailEnd, isLenV, isOneV, vop, vbin, vbinI, vun, ↓reduceIte, Nat.reduceEqDiff, Nat.reduceAdd, vcells, vcut, cutSK, cutVK, cutNK, fillV, spl, Nat.reduceLeDiff, V.isNil, bne_self_eq_false]; rfl, rfl⟩
    have hj2 : j = ds.length := by simp at h2; omega
    rw [List.take_of_length_le (by omega)]
    have hset := numStr_set true ds
    have hS : numPre true ++ List.map digB ds = numStr true ds := rfl
    have hlen : (numStr true ds).length ≤ 31 := by simp [numStr, numPre]; omega
    have h0 := numStr_head true ds
    rw [hj2, List.take_of_length_le (Nat.le_refl _), hS] at f5
    rw [hS]
    clear hS
    generalize numStr true ds = S at *
    refine parse_C (by unfold big; omega) ?_
    by_cases he : S = []
    · subst he
      rw [parseV_error (x := (0, 8)) (by kernel_rfl)]
      have e00 : (([] : List UInt8) == []) = true := rfl
      simp -implicitDefEqProofs only [JV.enc, JV.len, List.append_assoc, getL, getL0, setL, setL0, List.set_cons_zero, List.set_cons_succ, f5, e00, wset, tailW, tailEnd, isLenV, isOneV, vop, vbin, vbinI, vun, ↓reduceIte, Nat.reduceEqDiff, Nat.reduceAdd, vcells, vcut, cutSK, cutVK, cutNK, fillV, spl, Nat.reduceLeDiff, V.isNil, bne_self_eq_false]
      refine alive_C ?_
      have n8 : (((8 : Nat) : Int) == 8) = true := rfl
      simp -implicitDefEqProofs only [Int.natCast_zero, n8, beq_self_eq_true, wset, tailW, tailEnd, isLenV, isOneV, vop, vbin, vbinI, vun, ↓reduceIte, Nat.reduceEqDiff, Nat.reduceAdd, vcells, vcut, cutSK, cutVK, cutNK, fillV, spl, Nat.reduceLeDiff, V.isNil, bne_self_eq_false]
      exact exitNew hw (by rfl) (by rfl) h
    have he' : (S == []) = false := by simp [he]
    have hp := parse_num he hset (h0 he)
    cases hn : numR S with
    | none =>
      rw [hn] at hp
      rw [parseV_error hp]
      simp -implicitDefEqProofs only [JV.enc, JV.len, List.append_assoc, getL, getL0, setL, setL0, List.set_cons_zero, List.set_cons_succ, he', f5, wset, tailW, tailEnd, isLenV, isOneV, vop, vbin, vbinI, vun, ↓reduceIte, Nat.reduceEqDiff, Nat.reduceAdd, vcells, vcut, cutSK, cutVK, cutNK, fillV, spl, Nat.reduceLeDiff, V.isNil, bne_self_eq_false]
      refine refNumber_C (by unfold big; omega) ?_
      rw [hn]
      intro n
      simp -implicitDefEqProofs only [wset, tailW, tailEnd, isLenV, isOneV, vop, vbin, vbinI, vun, ↓reduceIte, Nat.reduceEqDiff, Nat.reduceAdd, vcells, vcut, cutSK, cutVK, cutNK, fillV, spl, Nat.reduceLeDiff, V.isNil, bne_self_eq_false]
      refine alive_C ?_
      have n8 : (((15 : Nat) : Int) == 15) = true := rfl
      simp -implicitDefEqProofs only [Int.natCast_zero, n8, beq_self_eq_true, wset, tailW, tailEnd, isLenV, isOneV, vop, vbin, vbinI, vun, ↓reduceIte, Nat.reduceEqDiff, Nat.reduceAdd, vcells, vcut, cutSK, cutVK, cutNK, fillV, spl, Nat.reduceLeDiff, V.isNil, bne_self_eq_false]
      exact exitNew hw (by rfl) (by rfl) h
    | some v =>
      rw [hn] at hp
      rw [parseV_ok hp]
      have hv : (jv 2 false v [] [] [] 0).cells = [.int .i64 2, .bool false, .int .i64 v, .str [], .slc false [] .no, .slc false [] .no, .int .i64 0] := by rfl
      simp -implicitDefEqProofs only [JV.enc, JV.len, List.append_assoc, getL, getL0, setL, setL0, List.set_cons_zero, List.set_cons_succ, he', f5, wset, tailW, tailEnd, isLenV, isOneV, vop, vbin, vbinI, vun, ↓reduceIte, Nat.reduceEqDiff, Nat.reduceAdd, vcells, vcut, cutSK, cutVK, cutNK, fillV, spl, Nat.reduceLeDiff, V.isNil, bne_self_eq_false]
      refine refNumber_C (by unfold big; omega) ?_
      rw [hn]
      simp -implicitDefEqProofs only [wset, tailW, tailEnd, isLenV, isOneV, vop, vbin, vbinI, vun, ↓reduceIte, Nat.reduceEqDiff, Nat.reduceAdd, vcells, vcut, cutSK, cutVK, cutNK, fillV, spl, Nat.reduceLeDiff, V.isNil, bne_self_eq_false]
      refine alive_C ?_
      simp -implicitDefEqProofs only [List.append_assoc, getL, getL0, setL, setL0, List.set_cons_zero, List.set_cons_succ, hv, f5, Int.natCast_zero, beq_self_eq_true, wset, tailW, tailEnd, isLenV, isOneV, vop, vbin, vbinI, vun, ↓reduceIte, Nat.reduceEqDiff, Nat.reduceAdd, vcells, vcut, cutSK, cutVK, cutNK, fillV, spl, Nat.reduceLeDiff, V.isNil, bne_self_eq_false]
      exact exitNew hw (by rfl) (by rfl) h
end Go.Proofs.YtgdcdkgmeomhpaaDoor

namespace Go.Proofs.YtgdcdkgmeomhpaaDoor
open Go Go.Vs Go.RowKit Go.ChangeShapes

/-- How many cells a block has. -/
def prOf (w : World) (b : Nat) : Nat := match w.heap[b]? with
  | some (.cells c _ _) => c.size
  | _ => 0
/-- The memory at the start: nothing of it is the abstract store's. -/
def mem0 (G : List (Nat × List V)) (w : World) : Mem := ⟨w.heap.size, G, 0, fun _ => 0, 0, fun _ => 0, prOf w, fun _ => (0, 0, 0), [], fun _ => 0⟩
def st0 : St := ⟨[], [], [], [], []⟩

def GOk (w : World) (G : List (Nat × List V)) : Prop :=
  ∀ (g : Nat) (cs : List V), (g, cs) ∈ G → g < w.heap.size ∧ ∃ us, RVs (mem0 G w) w cs us ∧ w.rangeAt g 0 us ∧ us.length ≤ prOf w g ∧ ∀ u ∈ us, u.oneCell' = true

theorem rel0 {G : List (Nat × List V)} {w : World} (h : GOk w G) : Rel (mem0 G w) st0 w where
  n := rfl
  nm := rfl
  tl := rfl
  base := Nat.le_refl _
  past b hb := by show prOf w b = 0; rw [prOf, Array.getElem?_eq_none hb]
  glob := h
  obj o cs ho := by cases ho
  inj o o' ho := by cases ho
  map r es hr := by cases hr
  minj r r' hr := by cases hr
  tok t ht := by cases ht
  tinj t t' ht := by cases ht
  mo r o hr := by cases hr
  mt r t hr := by cases hr
  tys := rfl
  ty o e ho := by cases ho
  tts := rfl
  tt i e hi := by cases hi

/-- The law's call, out of its contract. -/
theorem law_calls {X : Ctx} {f : FuncId} {args : List V} {us : List Value} {W : World} (hC : C X f args st0 fun o _ => o = .ret (.bool true)) (hG : GOk W X.G) (hus : RVs (mem0 X.G W) W args us) :
    Calls X.P f us.toArray W fun e W' => e = .returned (.bool true) ∧ Below W.heap.size W W' := by
  refine (hC.2 (mem0 X.G W) W us rfl (rel0 hG) hus).mono fun e W' ⟨μ', σ', out, hq, hev, _, ho⟩ => ?_
  subst hq
  obtain ⟨u, hu, rfl⟩ := ho
  cases hu
  exact ⟨rfl, hev.os, hev.tape, hev.output, hev.size, hev.old⟩

section
variable {P : Program} {w : World} {G : List (Nat × List V)}

theorem var_block {n : String} {g : Nat} {cs : Array Value} (hg : P.globalNamed n = some g) (h : w.var? P n = some cs) : ∃ t fz, w.heap[g]? = some (.cells cs t fz) := by
  simp only [World.var?, hg, Option.bind_some] at h
  split at h
  · rename_i c t fz hh
    cases h
    exact ⟨t, fz, hh⟩
  · cases h

theorem gfact {n : String} {g : Nat} {cs : Array Value} {vs : List V} (hg : P.globalNamed n = some g) (h : w.var? P n = some cs) (hr : RVs (mem0 G w) w vs cs.toList) (h1 : ∀ u ∈ cs.toList, u.oneCell' = true) :
    g < w.heap.size ∧ ∃ us, RVs (mem0 G w) w vs us ∧ w.rangeAt g 0 us ∧ us.length ≤ prOf w g ∧ ∀ u ∈ us, u.oneCell' = true := by
  obtain ⟨t, fz, hb⟩ := var_block hg h
  refine ⟨(Array.getElem?_eq_some_iff.1 hb).1, cs.toList, hr, fun j v hv => ?_, ?_, h1⟩
  · rw [World.var?_cell hg h, Nat.zero_add]
    simpa using hv
  · rw [prOf, hb]; simp

theorem rvs8 (l : List Nat) : RVs (mem0 G w) w (cells8 l) (l.map fun (n : Nat) => Value.int .u8 (n : Int)) := by
  refine ⟨by simp [cells8], fun i hi => ?_⟩
  have hi' : i < l.length := by simpa [cells8] using hi
  have e1 : (cells8 l).getD i .und = .int .u8 (l[i] : Int) := by simp [cells8, List.getD_eq_getElem?_getD, List.getElem?_eq_getElem hi']
  have e2 : (l.map fun (n : Nat) => Value.int .u8 (n : Int)).getD i undef = .int .u8 (l[i] : Int) := by simp [List.getD_eq_getElem?_getD, List.getElem?_eq_getElem hi']
  rw [e1, e2]
  exact .int _ _

theorem gfact8 {n : String} {g : Nat} {cs : Array Value} {l : List Nat} (hg : P.globalNamed n = some g) (h : w.var? P n = some cs) (e : cs.toList = l.map fun (n : Nat) => Value.int .u8 (n : Int)) :
    g < w.heap.size ∧ ∃ us, RVs (mem0 G w) w (cells8 l) us ∧ w.rangeAt g 0 us ∧ us.length ≤ prOf w g ∧ ∀ u ∈ us, u.oneCell' = true :=
  gfact hg h (by rw [e]; exact rvs8 l) (by rw [e]; intro u hu; obtain ⟨n, _, rfl⟩ := List.mem_map.1 hu; rfl)

theorem of_chunks {α : Type} (k : Nat) : ∀ (L : List (List α)) (cs : List α), cs.length = L.length * k → (∀ i, i < L.length → (cs.drop (i * k)).take k = L.getD i []) → cs = L.flatten
  | [], cs, hl, _ => by simpa using hl
  | c :: r, cs, hl, h => by
    have h0 := h 0 (by simp)
    simp only [Nat.zero_mul, List.drop_zero, List.getD_cons_zero] at h0
    have hr := of_chunks k r (cs.drop k) (by simp only [List.length_drop, hl, List.length_cons, Nat.succ_mul]; omega) fun i hi => by
      have := h (i + 1) (by simpa using hi)
      rw [List.getD_cons_succ, Nat.succ_mul] at this
      rw [List.drop_drop, Nat.add_comm]
      exact this
    rw [List.flatten_cons, ← hr, ← h0, List.take_append_drop]

/-- An array of arrays or of structs of bytes. -/
theorem chunks_of {fuel : Nat} {t e : TypeId} {n k : Nat} {cs : List Value} {L : List (List Nat)} {p : List MemPlace} (ht : P.underlying t = some (.array n e)) (hce : P.cellsOf e = k) (hL : L.length = n) (hct : P.cellsOf t = n * k)
    (he : ∀ (fuel : Nat) (cs : List Value) (l : List Nat) (q : List MemPlace), DataW.trod (fun _ => ()) P w 0 (fun _ => true) false fuel e cs = some (.agg ((l.map fun (x : Nat) => (x : Int)).map fun z => .lit (.int .u8 z)), q) → cs = l.map fun (x : Nat) => Value.int .u8 (x : Int))
    (h : DataW.trod (fun _ => ()) P w 0 (fun _ => true) false fuel t cs = some (.agg (L.map fun l => .agg ((l.map fun (x : Nat) => (x : Int)).map fun z => .lit (.int .u8 z))), p)) :
    cs = L.flatten.map fun (x : Nat) => Value.int .u8 (x : Int) := by
  have hlen : cs.length = n * k := by
    cases fuel with
    | zero => simp [DataW.trod] at h
    | succ fuel =>
      simp only [DataW.trod, ht] at h
      split at h
      · rename_i hl; rw [hl, hct]
      · cases h
  rw [List.map_flatten]
  refine of_chunks k _ cs (by simp [hL, hlen]) fun i hi => ?_
  have hi' : i < n := by simpa [hL] using hi
  obtain ⟨fuel', d, q, hdi, hd⟩ := Lib.array_elem ht h i hi'
  have hiL : i < L.length := by omega
  simp only [List.getElem?_map, List.getElem?_eq_getElem hiL, Option.map_some, Option.some.injEq] at hdi
  subst hdi
  rw [hce] at hd
  rw [he _ _ _ _ hd]
  simp [List.getD_eq_getElem?_getD, List.getElem?_eq_getElem hiL]

/-- An error that is listed. -/
theorem gfact_err {n : String} {g : Nat} {t : TypeId} {cs : Array Value} {a : Addr} {s : ByteArray} (hg : P.globalNamed n = some g) (h : w.var? P n = some cs) (e : cs.toList = [.iface t (.pointer (some a))]) (hc : w.cell? a = some (.string s)) :
    g < w.heap.size ∧ ∃ us, RVs (mem0 G w) w [.iface t (.eptr [])] us ∧ w.rangeAt g 0 us ∧ us.length ≤ prOf w g ∧ ∀ u ∈ us, u.oneCell' = true := by
  have hs := World.cell?_spot hc
  obtain ⟨b, off, sp⟩ := a
  simp only at hs
  subst hs
  refine gfact hg h ?_ (by rw [e]; intro u hu; rw [List.mem_singleton.1 hu]; rfl)
  rw [e]
  refine ⟨rfl, fun i hi => ?_⟩
  simp only [List.length_cons, List.length_nil] at hi
  obtain rfl : i = 0 := by omega
  simp only [List.getD_cons_zero]
  refine .iface _ _ _ (.eptr [] [] b off rfl (fun j v hv => by simp at hv) ?_ (fun u hu => by cases hu) fun i hi => by cases hi)
  show off + 0 ≤ prOf w b
  simp only [World.cell?] at hc
  split at hc
  · rename_i c t' fz hb
    simp only [Option.isSome_none, Bool.false_eq_true, if_false] at hc
    have := (Array.getElem?_eq_some_iff.1 hc).1
    have e : prOf w b = c.size := by rw [prOf, hb]
    omega
  · cases hc
end
end Go.Proofs.YtgdcdkgmeomhpaaDoor

namespace Go.Proofs.YtgdcdkgmeomhpaaDoor
open Go Go.Vs Go.RowKit Go.ChangeShapes
set_option maxRecDepth 100000

noncomputable abbrev PP : Program := Go.Proofs.Tryd.prog

theorem p_letters : PP.globalNamed "feedvault/jsonstring.letters" = some 1 := by kernel_rfl
theorem p_first : PP.globalNamed "unicode/utf8.first" = some 4 := by kernel_rfl
theorem p_accept : PP.globalNamed "unicode/utf8.acceptRanges" = some 5 := by kernel_rfl
theorem p_syntax : PP.globalNamed "strconv.ErrSyntax" = some 2 := by kernel_rfl
theorem p_range : PP.globalNamed "strconv.ErrRange" = some 3 := by kernel_rfl
theorem y_letters : (PP.globals[1]?).map (·.type) = some 109 := by kernel_rfl
theorem y_first : (PP.globals[4]?).map (·.type) = some 128 := by kernel_rfl
theorem y_accept : (PP.globals[5]?).map (·.type) = some 131 := by kernel_rfl
theorem y_syntax : (PP.globals[2]?).map (·.type) = some 66 := by kernel_rfl
theorem y_range : (PP.globals[3]?).map (·.type) = some 66 := by kernel_rfl
theorem u_u8 : PP.underlying 5 = some (.int .u8) := by kernel_rfl
theorem u_letters : PP.underlying 109 = some (.array 5 108) := by kernel_rfl
theorem u_pair : PP.underlying 108 = some (.array 2 5) := by kernel_rfl
theorem u_first : PP.underlying 128 = some (.array 256 5) := by kernel_rfl
theorem u_accepts : PP.underlying 131 = some (.array 16 130) := by kernel_rfl
theorem c_u8 : PP.cellsOf 5 = 1 := by kernel_rfl
theorem c_pair : PP.cellsOf 108 = 2 := by kernel_rfl
theorem c_letters : PP.cellsOf 109 = 10 := by kernel_rfl
theorem c_first : PP.cellsOf 128 = 256 := by kernel_rfl
theorem c_accept : PP.cellsOf 130 = 2 := by kernel_rfl
theorem c_accepts : PP.cellsOf 131 = 32 := by kernel_rfl
theorem c_errS : PP.cellsOf 137 = 1 := by kernel_rfl
theorem c_str : PP.cellsOf 9 = 1 := by kernel_rfl
theorem u_str : PP.underlying 9 = some .string := by kernel_rfl
theorem u_bool : PP.underlying 4 = some .bool := by kernel_rfl
theorem u_bytes : PP.underlying 34 = some (.slice 5) := by kernel_rfl
theorem u_pErr : PP.underlying 135 = some (.pointer 137) := by kernel_rfl
theorem star : "*" ++ "errors.errorString" = "*errors.errorString" := by decide
theorem rowErr (u : TypeId) (h : PP.typeName? 3 u = some "*errors.errorString") : u = 135 :=
  typeName_ptr_named (nm := "errors.errorString") (by rw [star]; kernel_rfl) (by kernel_rfl) (by decide) u (by rw [star]; exact h)

def pairs : List (List Nat) := [[98, 8], [102, 12], [110, 10], [114, 13], [116, 9]]
def ranges : List (List Nat) := [[128, 191], [160, 191], [128, 159], [144, 191], [128, 143], [0, 0], [0, 0], [0, 0], [0, 0], [0, 0], [0, 0], [0, 0], [0, 0], [0, 0], [0, 0], [0, 0]]
theorem pairs_flat : pairs.flatten = lettersN := by rfl
theorem ranges_flat : ranges.flatten = acceptN := by rfl

section
variable {w : World}
theorem pair_cells (fuel : Nat) (cs : List Value) (l : List Nat) (q : List MemPlace) (h : DataW.trod (fun _ => ()) PP w 0 (fun _ => true) false fuel 108 cs = some (.agg ((l.map fun (x : Nat) => (x : Int)).map fun z => .lit (.int .u8 z)), q)) : cs = l.map fun (x : Nat) => Value.int .u8 (x : Int) := by
  rw [Lib.cells_of_tab u_pair u_u8 c_u8 c_pair h, List.map_map]
  rfl
theorem accept_cells (fuel : Nat) (cs : List Value) (l : List Nat) (q : List MemPlace) (h : DataW.trod (fun _ => ()) PP w 0 (fun _ => true) false fuel 130 cs = some (.agg ((l.map fun (x : Nat) => (x : Int)).map fun z => .lit (.int .u8 z)), q)) : cs = l.map fun (x : Nat) => Value.int .u8 (x : Int) := by
  obtain ⟨fs, hu, hf, hs⟩ : ∃ fs, PP.underlying 130 = some (.struct fs) ∧ (∀ (i : Nat) (f : Field), fs[i]? = some f → PP.underlying f.type = some (.int .u8) ∧ f.offset = i ∧ PP.cellsOf f.type = 1) ∧ PP.cellsOf 130 = fs.size :=
    ⟨#[⟨"lo", 5, 0, false, "", "unicode/utf8", 0⟩, ⟨"hi", 5, 1, false, "", "unicode/utf8", 1⟩], by kernel_rfl, fun i f h => by
      match i, h with
      | 0, h => simp at h; subst h; exact ⟨u_u8, rfl, c_u8⟩
      | 1, h => simp at h; subst h; exact ⟨u_u8, rfl, c_u8⟩
      | i + 2, h => simp at h, c_accept⟩
  rw [Lib.ints_of_struct hu hf hs h, List.map_map]
  rfl

theorem g_letters_ok {G : List (Nat × List V)} (h : Lib.VarReads PP w "feedvault/jsonstring.letters" Rows.laid_feedvault_jsonstring_letters) :
    1 < w.heap.size ∧ ∃ us, RVs (mem0 G w) w (cells8 lettersN) us ∧ w.rangeAt 1 0 us ∧ us.length ≤ prOf w 1 ∧ ∀ u ∈ us, u.oneCell' = true := by
  obtain ⟨g, t, cs, fuel, p, hg, ht, hv, hd⟩ := h
  obtain rfl := Option.some.inj (p_letters.symm.trans hg)
  obtain rfl := Option.some.inj (y_letters.symm.trans ht)
  have hd' : DataW.trod (fun _ => ()) PP w 0 (fun _ => true) false fuel 109 cs.toList = some (.agg (pairs.map fun l => .agg ((l.map fun (x : Nat) => (x : Int)).map fun z => .lit (.int .u8 z))), p) := hd
  exact gfact8 hg hv (by rw [← pairs_flat]; exact chunks_of u_letters c_pair rfl c_letters pair_cells hd')
theorem g_accept_ok {G : List (Nat × List V)} (h : Lib.VarReads PP w "unicode/utf8.acceptRanges" Rows.laid_unicode_utf8_acceptRanges) :
    5 < w.heap.size ∧ ∃ us, RVs (mem0 G w) w (cells8 acceptN) us ∧ w.rangeAt 5 0 us ∧ us.length ≤ prOf w 5 ∧ ∀ u ∈ us, u.oneCell' = true := by
  obtain ⟨g, t, cs, fuel, p, hg, ht, hv, hd⟩ := h
  obtain rfl := Option.some.inj (p_accept.symm.trans hg)
  obtain rfl := Option.some.inj (y_accept.symm.trans ht)
  have hd' : DataW.trod (fun _ => ()) PP w 0 (fun _ => true) false fuel 131 cs.toList = some (.agg (ranges.map fun l => .agg ((l.map fun (x : Nat) => (x : Int)).map fun z => .lit (.int .u8 z))), p) := hd
  exact gfact8 hg hv (by rw [← ranges_flat]; exact chunks_of u_accepts c_accept rfl c_accepts accept_cells hd')
theorem first_data : (Rows.laid_unicode_utf8_first : DataW Unit) = Lib.tabData .u8 (firstN.map fun (x : Nat) => (x : Int)) := by kernel_rfl
theorem g_first_ok {G : List (Nat × List V)} (h : Lib.VarReads PP w "unicode/utf8.first" Rows.laid_unicode_utf8_first) :
    4 < w.heap.size ∧ ∃ us, RVs (mem0 G w) w (cells8 firstN) us ∧ w.rangeAt 4 0 us ∧ us.length ≤ prOf w 4 ∧ ∀ u ∈ us, u.oneCell' = true := by
  rw [first_data] at h
  obtain ⟨g, t, cs, fuel, p, hg, ht, hv, hd⟩ := h
  obtain rfl := Option.some.inj (p_first.symm.trans hg)
  obtain rfl := Option.some.inj (y_first.symm.trans ht)
  exact gfact8 hg hv (by rw [Lib.cells_of_tab u_first u_u8 c_u8 c_first hd, List.map_map]; rfl)

theorem g_err_ok {G : List (Nat × List V)} {n : String} {g : Nat} {text : List UInt8} (hn : PP.globalNamed n = some g) (hy : (PP.globals[g]?).map (·.type) = some 66)
    (h : Lib.VarReads PP w n (.iface "*errors.errorString" (.ptr (.agg [.lit (.string text)])))) (hok : ∀ cs : Array Value, w.var? PP n = some cs → ∀ u v, cs.toList = [.iface u v] → Value.okWide PP w .any 0 u v) :
    g < w.heap.size ∧ ∃ us, RVs (mem0 G w) w [.iface 135 (.eptr [])] us ∧ w.rangeAt g 0 us ∧ us.length ≤ prOf w g ∧ ∀ u ∈ us, u.oneCell' = true := by
  obtain ⟨g', t, cs, fuel, p, hg, ht, hv, hd⟩ := h
  obtain rfl := Option.some.inj (hn.symm.trans hg)
  obtain rfl := Option.some.inj (hy.symm.trans ht)
  obtain ⟨ms, hms⟩ : ∃ ms, PP.underlying 66 = some (.interface ms) := by
    have : (match PP.underlying 66 with | some (.interface _) => true | _ => false) = true := by kernel_rfl
    split at this
    · rename_i ms hms; exact ⟨ms, hms⟩
    · cases this
  obtain ⟨f, hft, h1, h2⟩ : ∃ f, PP.underlying 137 = some (.struct #[f]) ∧ f.type = 9 ∧ f.offset = 0 := ⟨⟨"s", 9, 0, false, "", "errors", 0⟩, by kernel_rfl, rfl, rfl⟩
  obtain ⟨a, s, hcs, hc, _⟩ := errorString_of_trod hms rowErr u_pErr hft h1 h2 u_str c_errS c_str hd fun u v e => hok cs hv u v e
  exact gfact_err hg hv hcs hc

theorem laid_place {P : Program} {w : World} : ∀ {l : List (String × DataW Unit)} {ps : List MemPlace} {n : String} {d : DataW Unit} {g : Nat} {cs : Array Value} {i : Nat}, DataW.LaidVars P w l ps → (n, d) ∈ l → P.globalNamed n = some g → w.var? P n = some cs → i < cs.size → MemPlace.cell g i ∈ ps
  | [], _, _, _, _, _, _, _, hm, _, _, _ => by cases hm
  | (n', d') :: r, ps, n, d, g, cs, i, h, hm, hg, hv, hi => by
    obtain ⟨g', t', cs', fuel, p, q, h1, h2, h3, h4, h5, rfl⟩ := h
    rcases List.mem_cons.1 hm with e | e
    · cases e
      obtain rfl := Option.some.inj (hg.symm.trans h1)
      obtain rfl := Option.some.inj (hv.symm.trans h3)
      exact List.mem_append_left _ (List.mem_append_left _ (List.mem_map.2 ⟨i, List.mem_range.2 hi, by simp⟩))
    · exact List.mem_append_right _ (laid_place h5 e hg hv hi)

/-- All that is listed is as the value semantics wants it. -/
theorem gok_of_laid {l : List (String × DataW Unit)} (h : laidMet PP l w) (h1 : ("feedvault/jsonstring.letters", Rows.laid_feedvault_jsonstring_letters) ∈ l) (h2 : ("unicode/utf8.first", Rows.laid_unicode_utf8_first) ∈ l)
    (h3 : ("unicode/utf8.acceptRanges", Rows.laid_unicode_utf8_acceptRanges) ∈ l) (h4 : ("strconv.ErrSyntax", Rows.laid_strconv_ErrSyntax) ∈ l) (h5 : ("strconv.ErrRange", Rows.laid_strconv_ErrRange) ∈ l) : GOk w Gs := by
  have hok : ∀ n d g, (n, d) ∈ l → PP.globalNamed n = some g → ∀ cs : Array Value, w.var? PP n = some cs → ∀ u v, cs.toList = [.iface u v] → Value.okWide PP w .any 0 u v := by
    obtain ⟨ps, hv, _, hr⟩ := h
    intro n d g hm hg cs hcs u v e
    have hp := laid_place hv hm hg hcs (i := 0) (by rw [← Array.length_toList, e]; simp)
    refine (hr g 0 hp).2 u v ?_
    rw [World.var?_cell hg hcs, ← Array.getElem?_toList, e]
    rfl
  intro g cs hg
  simp only [Gs, List.mem_cons, Prod.mk.injEq, List.not_mem_nil, or_false] at hg
  rcases hg with ⟨rfl, rfl⟩ | ⟨rfl, rfl⟩ | ⟨rfl, rfl⟩ | ⟨rfl, rfl⟩ | ⟨rfl, rfl⟩
  · exact g_letters_ok (Lib.laidMet.reads h h1)
  · exact g_first_ok (Lib.laidMet.reads h h2)
  · exact g_accept_ok (Lib.laidMet.reads h h3)
  · exact g_err_ok p_syntax y_syntax (Lib.laidMet.reads h h4) (hok _ _ _ h4 p_syntax)
  · exact g_err_ok p_range y_range (Lib.laidMet.reads h h5) (hok _ _ _ h5 p_range)
end
end Go.Proofs.YtgdcdkgmeomhpaaDoor

namespace Go.Proofs.YtgdcdkgmeomhpaaDoor
open Go Go.Vs Go.RowKit Go.ChangeShapes
set_option maxRecDepth 100000
section
variable {H : Type} {enc : TypeId × Value → H} {P : Program} {w : World} {G : List (Nat × List V)} {sp : Nat → Bool} {held : Bool}

theorem add_add (a : Addr) (m n : Nat) : (a.add m).add n = a.add (m + n) := by
  unfold Addr.add
  by_cases hm : m = 0
  · subst hm; simp
  · by_cases hn : n = 0
    · subst hn; simp [hm]
    · simp [hm, hn, Nat.add_assoc]

/-- Cells that read as an element stand for an abstract value of the kind R. -/
def ElemOk (enc : TypeId × Value → H) (P : Program) (w : World) (G : List (Nat × List V)) (sp : Nat → Bool) (held : Bool) (n : Nat) (e : TypeId) (sz : Nat) (R : V → Prop) : Prop :=
  ∀ (cs : List Value) (x : DataW H × List MemPlace), cs.length = sz → DataW.trod enc P w 0 sp held n e cs = some x → ∃ v, R v ∧ v.cells.length = sz ∧ RVs (mem0 G w) w v.cells cs ∧ ∀ u ∈ cs, u.oneCell' = true

theorem rv_slice {fuel : Nat} {t e : TypeId} {sz : Nat} {R : V → Prop} {cs : List Value} {x : DataW H × List MemPlace} (ht : P.underlying t = some (.slice e)) (hsz : P.cellsOf e = sz) (h0 : 0 < sz)
    (hel : ∀ n, n < fuel → ElemOk enc P w G sp held n e sz R) (h : DataW.trod enc P w 0 sp held fuel t cs = some x) :
    ∃ nn xs u, cs = [u] ∧ (∀ v ∈ xs, R v) ∧ RV (mem0 G w) w (.slc nn xs .no) u ∧ u.oneCell' = true ∧ (nn = false → xs = []) ∧ xs.length ≤ maxLen := by
  rcases DataW.trod_slice ht h with ⟨rfl, _⟩ | ⟨a, len, cap, elems, rest, n, rfl, rfl, _, _, hlc, hcm, hlen, hat, _, _⟩
  · exact ⟨false, [], _, rfl, fun v hv => (by cases hv), .nils, rfl, fun _ => rfl, Nat.zero_le _⟩
  rw [hsz] at hat
  have each : ∀ i, i < len → ∃ ci x, w.cells? 0 (a.add (i * sz)) sz = some ci ∧ DataW.trod enc P w 0 sp held n e ci = some x := fun i hi => by
    have h1 := hat i hi
    rw [List.getElem?_eq_getElem (by omega), Option.bind_eq_some_iff] at h1
    obtain ⟨ci, h2, h3⟩ := h1
    exact ⟨ci, _, h2, h3⟩
  have build : ∀ m, m ≤ len → ∃ (xs : List V) (us : List Value), xs.length = m ∧ us.length = m * sz ∧ (∀ v ∈ xs, R v ∧ v.cells.length = sz) ∧ (∀ j u, us[j]? = some u → w.cell? (a.add j) = some u) ∧ (∀ u ∈ us, u.oneCell' = true) ∧
      ∀ i, i < m → ∀ j, j < sz → RV (mem0 G w) w ((xs.getD i .und).cells.getD j .und) (us.getD (i * sz + j) undef) := by
    intro m
    induction m with
    | zero => exact fun _ => ⟨[], [], rfl, by simp, fun v hv => (by cases hv), fun j u hj => (by simp at hj), fun u hu => (by cases hu), fun i hi => by omega⟩
    | succ m ih =>
      intro hm
      obtain ⟨xs, us, l1, l2, hR, hc, h1, hrv⟩ := ih (by omega)
      obtain ⟨ci, y, hci, hy⟩ := each m (by omega)
      obtain ⟨_, l3, hcc⟩ := World.cells?_some hci
      obtain ⟨v, hv, lv, ⟨lr, hr⟩, hone⟩ := hel n (by omega) ci y l3 hy
      refine ⟨xs ++ [v], us ++ ci, by simp [l1], by simp [l2, l3, Nat.succ_mul], ?_, ?_, ?_, ?_⟩
      · intro z hz
        rcases List.mem_append.1 hz with hz | hz
        · exact hR z hz
        · rw [List.mem_singleton.1 hz]; exact ⟨hv, lv⟩
      · intro j u hj
        by_cases hjl : j < us.length
        · rw [List.getElem?_append_left hjl] at hj; exact hc j u hj
        · rw [List.getElem?_append_right (by omega)] at hj
          have hlt := (List.getElem?_eq_some_iff.1 hj).1
          have := hcc (j - us.length) (by omega)
          rw [add_add, l2, show m * sz + (j - m * sz) = j by omega] at this
          rw [this, ← hj, l2]
      · intro u hu
        rcases List.mem_append.1 hu with hu | hu
        · exact h1 u hu
        · exact hone u hu
      · intro i hi j hj
        by_cases him : i < m
        · have hlt : i * sz + j < us.length := by
            have := Nat.mul_le_mul_right sz (show i + 1 ≤ m by omega)
            rw [Nat.succ_mul] at this
            omega
          have e1 : (xs ++ [v]).getD i .und = xs.getD i .und := by simp only [List.getD_eq_getElem?_getD]; rw [List.getElem?_append_left (by omega)]
          have e2 : (us ++ ci).getD (i * sz + j) undef = us.getD (i * sz + j) undef := by simp only [List.getD_eq_getElem?_getD]; rw [List.getElem?_append_left hlt]
          rw [e1, e2]
          exact hrv i him j hj
        · obtain rfl : i = m := by omega
          have e1 : (xs ++ [v]).getD i .und = v := by simp [List.getD_eq_getElem?_getD, l1]
          have e2 : (us ++ ci).getD (i * sz + j) undef = ci.getD j undef := by
            simp only [List.getD_eq_getElem?_getD]
            rw [List.getElem?_append_right (by omega), l2, show i * sz + j - i * sz = j by omega]
          rw [e1, e2]
          exact hr j (by omega)
  obtain ⟨xs, us, l1, l2, hR, hc, h1, hrv⟩ := build len (Nat.le_refl _)
  refine ⟨true, xs, _, rfl, fun v hv => (hR v hv).1, ?_, rfl, fun h => (by cases h), by omega⟩
  by_cases hl0 : len = 0
  · subst hl0
    obtain rfl : xs = [] := List.length_eq_zero_iff.1 l1
    exact .slc0 a cap
  · have hpos : 0 < len * sz := Nat.mul_pos (by omega) h0
    obtain ⟨u0, hu0⟩ : ∃ u, us[0]? = some u := ⟨us[0]'(by omega), List.getElem?_eq_getElem (by omega)⟩
    have hs := World.cell?_spot (hc 0 u0 hu0)
    obtain ⟨b, off, spt⟩ := a
    simp only [Addr.add, if_true] at hs
    subst hs
    obtain ⟨ul, hul⟩ : ∃ u, us[len * sz - 1]? = some u := ⟨us[len * sz - 1]'(by omega), List.getElem?_eq_getElem (by omega)⟩
    have hcl := hc _ ul hul
    rw [Addr.add_mid] at hcl
    have hpr : off + us.length ≤ prOf w b := by
      simp only [World.cell?] at hcl
      split at hcl
      · rename_i c t' fz hb
        simp only [Option.isSome_none, Bool.false_eq_true, if_false] at hcl
        have := (Array.getElem?_eq_some_iff.1 hcl).1
        have e : prOf w b = c.size := by rw [prOf, hb]
        omega
      · cases hcl
    rw [← l1]
    refine .slc xs .no b off cap sz us (fun v hv => (hR v hv).2) (by rw [l2, l1]) (fun j u hj => by have := hc j u hj; rwa [Addr.add_mid] at this) hpr h1 (fun i hi j hj => hrv i (by omega) j hj) trivial (by omega)
end

section
variable {H : Type} {enc : TypeId × Value → H} {w : World} {G : List (Nat × List V)} {sp : Nat → Bool} {held : Bool}

theorem elem_u8 (n : Nat) : ElemOk enc PP w G sp held n 5 1 (fun v => ∃ c : UInt8, v = .int .u8 (c.toNat : Int)) := by
  intro cs x _ h
  obtain ⟨z, rfl, _, hw⟩ := DataW.trod_int u_u8 h
  have hz : 0 ≤ z ∧ z ≤ 255 := by simpa [Lit.wf, IntKind.min, IntKind.max, IntKind.signed, IntKind.bits] using hw
  refine ⟨.int .u8 z, ⟨UInt8.ofNat z.toNat, ?_⟩, rfl, ⟨rfl, fun i hi => ?_⟩, fun u hu => by rw [List.mem_singleton.1 hu]; rfl⟩
  · have : (UInt8.ofNat z.toNat).toNat = z.toNat := by simp; omega
    rw [this]
    congr 1
    omega
  · simp only [V.cells, List.length_cons, List.length_nil] at hi
    obtain rfl : i = 0 := by omega
    exact .int _ _
theorem bytes_list : ∀ {xs : List V}, (∀ v ∈ xs, ∃ c : UInt8, v = .int .u8 (c.toNat : Int)) → ∃ ds, xs = bytesV ds
  | [], _ => ⟨[], rfl⟩
  | v :: r, h => by
    obtain ⟨c, rfl⟩ := h v (by simp)
    obtain ⟨ds, rfl⟩ := bytes_list (xs := r) fun v hv => h v (by simp [hv])
    exact ⟨c :: ds, rfl⟩

theorem rv_bytes {b0 : Nat} {v : Value} {d : DataW H} {ps : List MemPlace} (hval : Value.okWide PP w .any b0 34 v) (hd : DataW.Trod enc PP w 0 sp held 34 v d ps) : ∃ nn ds, RV (mem0 G w) w (.slc nn (bytesV ds) .no) v := by
  obtain ⟨fuel, hf⟩ := hd
  obtain ⟨nn, xs, u, hu, hR, hrv, _⟩ := rv_slice (G := G) u_bytes c_u8 (by omega) (fun n _ => elem_u8 n) hf
  obtain ⟨ds, rfl⟩ := bytes_list hR
  obtain ⟨a, len, cap, rfl⟩ := WideShapes.okWide_slice u_bytes hval
  have : u = .slice a len cap := by simpa [Value.cells] using hu.symm
  exact ⟨nn, ds, this ▸ hrv⟩
end
end Go.Proofs.YtgdcdkgmeomhpaaDoor

namespace Go.Proofs.YtgdcdkgmeomhpaaDoor
open Go Go.Vs Go.RowKit Go.ChangeShapes
set_option maxRecDepth 100000

theorem own : ownKnob PP.godebug = none := by kernel_rfl
theorem laidOutP : laidOutB PP = true := by kernel_rfl

theorem trodAll_stays {H : Type} {enc : TypeId × Value → H} {P : Program} (hl : laidOutB P = true) {W W' : World} (hb : Below W.heap.size W W') :
    ∀ {ts : List TypeId} {vs : List Value} {ds : List (DataW H)} {ps : List MemPlace}, (ts.all fun t => P.readableRec t && decide (t < P.types.size)) = true → (∀ x ∈ ps, x.block < W.heap.size) → DataW.TrodAll enc P W 0 (fun _ => true) true ts vs ds ps →
      DataW.TrodAll enc P W' 0 (fun b => decide (b < W.heap.size)) true ts vs ds ps
  | [], [], [], _, _, _, h => h
  | t :: ts, v :: vs, d :: ds, ps, ht, hp, h => by
    obtain ⟨p, q, h1, h2, rfl⟩ := h
    simp only [List.all_cons, Bool.and_eq_true, decide_eq_true_eq] at ht
    exact ⟨p, q, Below.trod hl ht.1.1 ht.1.2 h1 hb (fun x hx => hp x (List.mem_append_left _ hx)), trodAll_stays hl hb (by simpa using ht.2) (fun x hx => hp x (List.mem_append_right _ hx)) h2, rfl⟩
  | [], [], _ :: _, _, _, _, h => h.elim
  | [], _ :: _, _, _, _, _, h => h.elim
  | _ :: _, [], _, _, _, _, h => h.elim
  | _ :: _, _ :: _, [], _, _, _, h => h.elim

/-- What a law leaves that returns true and turns nothing that was there. -/
theorem law_post {H : Type} {enc : TypeId × Value → H} {fn : Func} {s : ChangeSpec} {W W' : World} {args : Array Value} {ds gs : List (DataW H)} {before : List MemPlace} (hv : s.vars = []) (hr : fn.resultTypes = #[4])
    (hts : (fn.params.toList.all fun t => PP.readableRec t && decide (t < PP.types.size)) = true) (hs : gs = [] → s.fn H (ds ++ gs) = { results := [.lit (.bool true)], args := ds })
    (hw : DataW.Whole enc PP fn.params.toList s.vars false W args.toList ds gs before) (hb : Below W.heap.size W W') : s.post enc PP fn false true false false W args (.bool true) W' := by
  have hW := hw
  obtain ⟨p, q, hA, hV, rfl, _, _⟩ := hw
  rw [hv] at hV
  obtain ⟨rfl, rfl⟩ := trodVars_none hV
  have hlt : ∀ x ∈ p, x.block < W.heap.size := fun x hx => hW.lt x (List.mem_append_left _ hx)
  refine ⟨ds, [], _, [], p, [], hW, ?_, ?_, ?_, hb.frame _, fun h => by cases h⟩
  · rw [hs rfl, hr]
    exact trodAll_mk1 (shut_bool u_bool true)
  · rw [hs rfl]
    exact trodAll_stays laidOutP hb hts hlt hA
  · rw [hs rfl, hv]
    rfl

/-- The numbers of a datum. -/
def flatV : Nat → DataW Unit → List Value
  | 0, _ => []
  | _ + 1, .lit (.int i n) => [.int i n]
  | k + 1, .agg ps => ps.flatMap (flatV k)
  | _ + 1, _ => []
def layG (g : Nat) (cs : List Value) (h : Array Obj) : Array Obj := h.modify g fun
  | .cells _ t fz => .cells cs.toArray t fz
  | o => o
abbrev synS : ByteArray := { data := #[105, 110, 118, 97, 108, 105, 100, 32, 115, 121, 110, 116, 97, 120] }
abbrev rngS : ByteArray := { data := #[118, 97, 108, 117, 101, 32, 111, 117, 116, 32, 111, 102, 32, 114, 97, 110, 103, 101] }
noncomputable def low : Nat := (World.holding PP default ⟨#[], #[], []⟩).heap.size
/-- A world in which the listed variables hold what is listed. -/
noncomputable def laidWorld (os : Os) : World :=
  let w0 := World.holding PP os ⟨#[.cells #[.string synS] 137, .cells #[.string rngS] 137], #[], []⟩
  { w0 with heap := layG 7 (flatV 4 Rows.laid_math_bits_deBruijn32tab) (layG 8 (flatV 4 Rows.laid_math_bits_deBruijn64tab) (layG 6 (flatV 4 Rows.laid_internal_strconv_uint64pow10)
      (layG 5 (flatV 4 Rows.laid_unicode_utf8_acceptRanges) (layG 1 (flatV 4 Rows.laid_feedvault_jsonstring_letters) (layG 4 (flatV 4 Rows.laid_unicode_utf8_first)
      (layG 2 [.iface 135 (.pointer (some ⟨low, 0, none⟩))] (layG 3 [.iface 135 (.pointer (some ⟨low + 1, 0, none⟩))] w0.heap))))))) }
theorem laidWorld_met (os : Os) (args : Array Value) : laidMet PP Rows.jsonvalueNumbersRow.laid ((laidWorld os).forCall (fun _ _ => 0) ⟨#[], args, []⟩).memory :=
  laidMet_of_run' 8 (by kernel_rfl) (by kernel_rfl)
end Go.Proofs.YtgdcdkgmeomhpaaDoor

namespace Go.Proofs.YtgdcdkgmeomhpaaDoor
open Go Go.Vs Go.RowKit Go.ChangeShapes
set_option maxRecDepth 100000

theorem numbers_lifted (os : Os) (started : os.Started) (H : Type) (enc : TypeId × Value → H) :
    ReturnsInHanded {} Go.Proofs.Tryd.checked os 4 .any (fun w args => (Rows.jsonvalueNumbersSpec.pre enc PP Go.Proofs.Tryd.f4 [] false w args ∧ laidMet PP Rows.jsonvalueNumbersRow.laid w) ∧ sizedMet enc PP Go.Proofs.Tryd.f4 (OpenSpec.ofChange Rows.jsonvalueNumbersSpec) false w args)
      (Rows.jsonvalueNumbersSpec.post enc PP Go.Proofs.Tryd.f4 false true false false) := by
  refine returnsInHanded_of_change_and (C := Go.Proofs.Tryd.checked) (X := fun w _ => laidMet PP Rows.jsonvalueNumbersRow.laid w) (fun _ _ _ hh h => h.of_heap hh) own started (by kernel_rfl) Go.Proofs.Tryd.func4
    (ChangeSpec.witness_at (enc := enc) (C := Go.Proofs.Tryd.checked) (os := os) (X := fun w _ => laidMet PP Rows.jsonvalueNumbersRow.laid w) false (laidWorld os) #[.slice none 0 0, .bool false] 8 rfl (by kernel_rfl) (by kernel_rfl) (by kernel_rfl) (by kernel_rfl) (by kernel_rfl) (laidWorld_met os _)) ?_
  intro W base args ds gs before hval0 hW _ _ hL _
  have hval : ∀ (j : Nat) t v, Go.Proofs.Tryd.f4.params[j]? = some t → args[j]? = some v → Value.okWide PP W .any base t v := hval0
  have hW' := hW
  obtain ⟨p, q, hA0, hV, rfl, hfz, hnd⟩ := hW
  have hA : DataW.TrodAll enc PP W 0 (fun _ => true) true Go.Proofs.Tryd.f4.params.toList args.toList ds p := hA0
  rw [Go.Proofs.Tryd.params4] at hA hval
  obtain ⟨v0, v1, d0, d1, p0, p1, rfl, rfl, rfl, h0, h1⟩ := trodAll_two hA
  obtain ⟨nn, bs, r0⟩ := rv_bytes (G := Gs) (hval 0 34 v0 rfl rfl) h0
  obtain ⟨b, rfl, rfl, rfl⟩ := open_bool u_bool (hval 1 4 v1 rfl rfl) h1
  have hG := gok_of_laid hL (by simp [Rows.jsonvalueNumbersRow]) (by simp [Rows.jsonvalueNumbersRow]) (by simp [Rows.jsonvalueNumbersRow]) (by simp [Rows.jsonvalueNumbersRow]) (by simp [Rows.jsonvalueNumbersRow])
  have hC := law_calls (X := Xc) (W := W) (args := [.slc nn (bytesV bs) .no, .bool b]) (us := [v0, .bool b]) (f := 4) (law11Numbers_C rfl) hG ⟨rfl, fun i hi => by
    match i, hi with
    | 0, _ => exact r0
    | 1, _ => exact .bool b⟩
  refine hC.mono fun e W' ⟨he, hb⟩ => ⟨_, he, law_post rfl (by kernel_rfl) (by kernel_rfl) (fun hg => by subst hg; rfl) hW' hb⟩

theorem numbers_row : Rows.JsonvalueNumbersSaid :=
  OpenClaim.holds_of_wide 4 Go.Proofs.Tryd.f4 rfl rfl rfl rfl rfl rfl rfl ⟨rfl, rfl, rfl, rfl, rfl⟩ rfl rfl rfl rfl rfl (by kernel_rfl) Go.Proofs.Tryd.func4 (by kernel_rfl)
    (of_decide_eq_true (by kernel_rfl)) (by unfold Func.isWrapper; rw [if_neg (of_decide_eq_false (by kernel_rfl))]; exact ⟨rfl, rfl⟩)
    (fun os started H enc _ => numbers_lifted os started H enc)

theorem numbers_card : Rows.JsonvalueNumbersCardSaid :=
  Claim7.holds_tied_plain_at .later [] [.data, .data, .data, .data, .sentinel, .sentinel, .data, .pinned] true (true, "96ebcd071a44423fa6172b6e05294c4e6cb951c42bcff84d9bdb0ef5f319f581") true
    numbers_row (fun _ h => by cases h) (by kernel_rfl) (fun _ h => by cases h) jsonvalueNumbers_row_tie rfl ⟨rfl, rfl⟩ (by kernel_rfl) rfl
    (fun f fn hf hfn => by
      obtain rfl : f = 4 := Option.some.inj ((show PP.funcNamed "feedvault/feedvaultlaw11.JsonvalueNumbers" = some 4 by kernel_rfl).symm.trans hf) |>.symm
      obtain rfl : fn = Go.Proofs.Tryd.f4 := (Option.some.inj (Go.Proofs.Tryd.func4.symm.trans hfn)).symm
      refine ⟨by kernel_rfl, fun j t ht => ?_⟩
      rw [Go.Proofs.Tryd.params4] at ht
      match j, ht with
      | 0, ht => simp at ht; subst ht; exact (show PP.wantsStandIn 34 = false by kernel_rfl)
      | 1, ht => simp at ht; subst ht; exact (show PP.wantsStandIn 4 = false by kernel_rfl)
      | j + 2, ht => simp at ht)
    (by kernel_rfl)
#print axioms numbers_card
end Go.Proofs.YtgdcdkgmeomhpaaDoor
