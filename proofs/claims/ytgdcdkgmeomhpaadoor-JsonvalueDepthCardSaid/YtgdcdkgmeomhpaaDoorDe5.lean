/- 'JsonvalueDepth' holds: for every byte and every bool arrays or objects may be nested up to the limit and not beyond it, where the listed package variables start as the program's text lays them (the tied card). -/
import Derived.Test.YtgdcdkgmeomhpaaDoorCards
import Derived.Test.YtgdcdkgmeomhpaaDoorDe1
import Derived.Test.YtgdcdkgmeomhpaaDoorDe2
import Derived.Test.YtgdcdkgmeomhpaaDoorDe3
import Derived.Test.YtgdcdkgmeomhpaaDoorDe4
set_option linter.unusedVariables false
set_option linter.unusedSimpArgs false

namespace Go.Proofs.YtgdcdkgmeomhpaaDoor
open Go Go.Vs Go.RowKit Go.ChangeShapes
set_option maxRecDepth 100000

noncomputable def fieldsOf (t : TypeId) : Array Field := match PP.underlying t with
  | some (.struct fs) => fs
  | _ => #[]
theorem u_value : PP.underlying 25 = some (.struct (fieldsOf 25)) := by kernel_rfl
theorem f_value : (fieldsOf 25).toList.map (fun f => (f.type, f.offset)) = [(3, 0), (4, 1), (2, 2), (9, 3), (22, 4), (23, 5), (3, 6)] := by kernel_rfl
theorem u_member : PP.underlying 45 = some (.struct (fieldsOf 45)) := by kernel_rfl
theorem f_member : (fieldsOf 45).toList.map (fun f => (f.type, f.offset)) = [(9, 0), (25, 1), (3, 8)] := by kernel_rfl
theorem u_int : PP.underlying 3 = some (.int .i64) := by kernel_rfl
theorem u_i64 : PP.underlying 2 = some (.int .i64) := by kernel_rfl
theorem u_vals : PP.underlying 22 = some (.slice 25) := by kernel_rfl
theorem u_mems : PP.underlying 23 = some (.slice 45) := by kernel_rfl
theorem c_int : PP.cellsOf 3 = 1 := by kernel_rfl
theorem c_i64 : PP.cellsOf 2 = 1 := by kernel_rfl
theorem c_bool : PP.cellsOf 4 = 1 := by kernel_rfl
theorem c_vals : PP.cellsOf 22 = 1 := by kernel_rfl
theorem c_mems : PP.cellsOf 23 = 1 := by kernel_rfl
theorem c_value : PP.cellsOf 25 = 7 := by kernel_rfl
theorem c_member : PP.cellsOf 45 = 9 := by kernel_rfl

section
variable {H : Type} {enc : TypeId × Value → H} {w : World} {G : List (Nat × List V)} {sp : Nat → Bool} {held : Bool}

theorem field_read {fuel : Nat} {t : TypeId} {fs : Array Field} {cs : List Value} {x : DataW H × List MemPlace} {L : List (TypeId × Nat)} (ht : PP.underlying t = some (.struct fs)) (hL : fs.toList.map (fun f => (f.type, f.offset)) = L)
    (h : DataW.trod enc PP w 0 sp held fuel t cs = some x) : ∃ n, fuel = n + 1 ∧ cs.length = PP.cellsOf t ∧ ∀ (i : Nat) (ty : TypeId) (off : Nat), L[i]? = some (ty, off) → ∃ y, DataW.trod enc PP w 0 sp held n ty ((cs.drop off).take (PP.cellsOf ty)) = some y := by
  obtain ⟨xs, n, rfl, _, hl, hxl, hall⟩ := DataW.trod_struct ht h
  refine ⟨n, rfl, hl, fun i ty off hi => ?_⟩
  rw [← hL, List.getElem?_map, Option.map_eq_some_iff] at hi
  obtain ⟨f, hf, he⟩ := hi
  have hf' : fs[i]? = some f := by simpa using hf
  have hlt := (Array.getElem?_eq_some_iff.1 hf').1
  have := hall i f hf'
  simp only [Prod.mk.injEq] at he
  rw [he.1, he.2] at this
  exact ⟨_, this.trans (List.getElem?_eq_getElem (by omega))⟩

theorem rv_int1 {n : Nat} {t : TypeId} {c : Value} {x : DataW H × List MemPlace} {k : IntKind} (ht : PP.underlying t = some (.int k)) (h : DataW.trod enc PP w 0 sp held n t [c] = some x) : ∃ z, c = .int k z := by
  obtain ⟨z, hz, _⟩ := DataW.trod_int ht h
  exact ⟨z, by simpa using hz⟩
theorem rv_bool1 {n : Nat} {c : Value} {x : DataW H × List MemPlace} (h : DataW.trod enc PP w 0 sp held n 4 [c] = some x) : ∃ b, c = .bool b := by
  obtain ⟨z, hz, _⟩ := DataW.trod_bool u_bool h
  exact ⟨z, by simpa using hz⟩
theorem rv_str1 {n : Nat} {c : Value} {x : DataW H × List MemPlace} (h : DataW.trod enc PP w 0 sp held n 9 [c] = some x) : ∃ s : ByteArray, c = .string s ∧ s.size ≤ maxLen := by
  obtain ⟨z, hz, _, hl⟩ := DataW.trod_string u_str h
  exact ⟨z, by simpa using hz, hl⟩

def IsV (v : V) : Prop := ∃ j : JV, v = .agg j.cells
def IsM (v : V) : Prop := ∃ m : JM, v = .agg m.cells
theorem list_vals : ∀ {xs : List V}, (∀ v ∈ xs, IsV v) → ∃ is, xs = encL is
  | [], _ => ⟨[], rfl⟩
  | v :: r, h => by
    obtain ⟨j, rfl⟩ := h v (by simp)
    obtain ⟨is, rfl⟩ := list_vals (xs := r) fun v hv => h v (by simp [hv])
    exact ⟨j :: is, rfl⟩
theorem list_mems : ∀ {xs : List V}, (∀ v ∈ xs, IsM v) → ∃ ms, xs = encMs ms
  | [], _ => ⟨[], rfl⟩
  | v :: r, h => by
    obtain ⟨m, rfl⟩ := h v (by simp)
    obtain ⟨ms, rfl⟩ := list_mems (xs := r) fun v hv => h v (by simp [hv])
    exact ⟨m :: ms, rfl⟩
theorem rv_slcE {nn : Bool} {xs : List V} {u : Value} (h : RV (mem0 G w) w (.slc nn xs .no) u) (hn : nn = false → xs = []) : RV (mem0 G w) w (slcE nn xs) u := by
  have : slcE nn xs = .slc nn xs .no := by
    cases nn with
    | true => rfl
    | false => rw [hn rfl]; rfl
  rw [this]; exact h
theorem RVs.cons {a : V} {b : Value} {cs : List V} {us : List Value} {μ : Mem} (h : RV μ w a b) (hs : RVs μ w cs us) : RVs μ w (a :: cs) (b :: us) :=
  ⟨by simp [hs.1], fun i hi => by
    match i with
    | 0 => exact h
    | i + 1 => exact hs.2 i (by simpa using hi)⟩
theorem RVs.nil {μ : Mem} : RVs μ w [] [] := ⟨rfl, fun i hi => by cases hi⟩
theorem RVs.app {cs cs' : List V} {us us' : List Value} {μ : Mem} (h : RVs μ w cs us) (h' : RVs μ w cs' us') : RVs μ w (cs ++ cs') (us ++ us') := by
  induction cs generalizing us with
  | nil =>
    have : us = [] := by have := h.1; simpa using this.symm
    subst this
    exact h'
  | cons c r ih =>
    match us, h with
    | [], h => cases h.1
    | u :: us, h =>
      have hr : RVs μ w r us := ⟨by have := h.1; simpa using this, fun i hi => by have := h.2 (i + 1) (by simpa using hi); simpa using this⟩
      have h0 : RV μ w c u := by have := h.2 0 (by simp); simpa using this
      exact RVs.cons h0 (ih hr)

theorem json_elems : ∀ (n : Nat), ElemOk enc PP w G sp held n 25 7 IsV ∧ ElemOk enc PP w G sp held n 45 9 IsM := by
  intro n
  induction n using Nat.strongRecOn with
  | _ n ih =>
    constructor
    · intro cs x hl h
      obtain ⟨m, rfl, _, hf⟩ := field_read u_value f_value h
      match cs, hl with
      | [c0, c1, c2, c3, c4, c5, c6], _ =>
        obtain ⟨_, h0⟩ := hf 0 _ _ rfl
        obtain ⟨_, h1⟩ := hf 1 _ _ rfl
        obtain ⟨_, h2⟩ := hf 2 _ _ rfl
        obtain ⟨_, h3⟩ := hf 3 _ _ rfl
        obtain ⟨_, h4⟩ := hf 4 _ _ rfl
        obtain ⟨_, h5⟩ := hf 5 _ _ rfl
        obtain ⟨_, h6⟩ := hf 6 _ _ rfl
        rw [c_int] at h0 h6
        rw [c_bool] at h1
        rw [c_i64] at h2
        rw [c_str] at h3
        rw [c_vals] at h4
        rw [c_mems] at h5
        obtain ⟨k, rfl⟩ := rv_int1 u_int h0
        obtain ⟨b, rfl⟩ := rv_bool1 h1
        obtain ⟨z, rfl⟩ := rv_int1 u_i64 h2
        obtain ⟨s, rfl, _⟩ := rv_str1 h3
        obtain ⟨a, rfl⟩ := rv_int1 u_int h6
        obtain ⟨ni, xs, u4, e4, hR4, hr4, ho4, hn4, _⟩ := rv_slice (G := G) u_vals c_value (by omega) (fun k hk => (ih k (by omega)).1) h4
        obtain ⟨nm, ys, u5, e5, hR5, hr5, ho5, hn5, _⟩ := rv_slice (G := G) u_mems c_member (by omega) (fun k hk => (ih k (by omega)).2) h5
        obtain ⟨is, rfl⟩ := list_vals hR4
        obtain ⟨ms, rfl⟩ := list_mems hR5
        obtain rfl : c4 = u4 := by simpa using e4
        obtain rfl : c5 = u5 := by simpa using e5
        refine ⟨.agg (JV.mk k b z s.data.toList ni is nm ms a).cells, ⟨_, rfl⟩, JV.len _, ?_, ?_⟩
        · exact RVs.cons (.int _ _) (RVs.cons (.bool _) (RVs.cons (.int _ _) (RVs.cons (.str _) (RVs.cons (rv_slcE hr4 hn4) (RVs.cons (rv_slcE hr5 hn5) (RVs.cons (.int _ _) RVs.nil))))))
        · intro u hu
          simp only [List.mem_cons, List.not_mem_nil, or_false] at hu
          rcases hu with rfl | rfl | rfl | rfl | rfl | rfl | rfl <;> first | rfl | assumption
    · intro cs x hl h
      obtain ⟨m, rfl, _, hf⟩ := field_read u_member f_member h
      obtain ⟨_, h0⟩ := hf 0 _ _ rfl
      obtain ⟨_, h1⟩ := hf 1 _ _ rfl
      obtain ⟨_, h2⟩ := hf 2 _ _ rfl
      rw [c_str] at h0
      rw [c_value] at h1
      rw [c_int] at h2
      obtain ⟨v, ⟨j, rfl⟩, _, hrv, hone⟩ := (ih m (by omega)).1 ((cs.drop 1).take 7) _ (by simp; omega) h1
      match cs, hl with
      | [c0, c1, c2, c3, c4, c5, c6, c7, c8], _ =>
        obtain ⟨s, rfl, _⟩ := rv_str1 h0
        obtain ⟨a, rfl⟩ := rv_int1 u_int h2
        refine ⟨.agg (JM.mk s.data.toList j a).cells, ⟨_, rfl⟩, JM.len _, ?_, ?_⟩
        · exact RVs.cons (.str _) (RVs.app (us := [c1, c2, c3, c4, c5, c6, c7]) hrv (RVs.cons (.int _ _) RVs.nil))
        · intro u hu
          simp only [List.mem_cons, List.not_mem_nil, or_false] at hu
          simp only [List.drop_succ_cons, List.drop_zero, List.take_succ_cons, List.take_zero, List.mem_cons, List.not_mem_nil, or_false] at hone
          rcases hu with rfl | hu | hu | hu | hu | hu | hu | hu | rfl
          · rfl
          all_goals first | rfl | (exact hone u (by simp [hu]))

/-- A value handed to the law. -/
theorem rv_value {b0 : Nat} {v : Value} {d : DataW H} {ps : List MemPlace} (hval : Value.okWide PP w .any b0 25 v) (hd : DataW.Trod enc PP w 0 sp held 25 v d ps) : ∃ j : JV, RV (mem0 G w) w j.enc v := by
  obtain ⟨fuel, hf⟩ := hd
  simp only [Value.okWide, u_value] at hval
  obtain ⟨us, rfl, hsz, _⟩ := hval
  rw [c_value] at hsz
  obtain ⟨_, ⟨j, rfl⟩, _, hr, hone⟩ := (json_elems (enc := enc) (w := w) (G := G) (sp := sp) (held := held) fuel).1 us.toList _ (by simpa using hsz) hf
  have := RV.agg (μ := mem0 G w) (w := w) j.cells us.toList hr.1 hone hr.2
  exact ⟨j, by show RV (mem0 G w) w (V.agg j.cells) _; simpa using this⟩
end
end Go.Proofs.YtgdcdkgmeomhpaaDoor

namespace Go.Proofs.YtgdcdkgmeomhpaaDoor
open Go Go.Vs Go.RowKit Go.ChangeShapes
set_option maxRecDepth 100000

theorem jsonvalueDepth_lifted (os : Os) (started : os.Started) (H : Type) (enc : TypeId × Value → H) :
    ReturnsInHanded {} Go.Proofs.Tryd.checked os 5 .any (fun w args => (Rows.jsonvalueDepthSpec.pre enc PP Go.Proofs.Tryd.f5 [] false w args ∧ laidMet PP Rows.jsonvalueDepthRow.laid w) ∧ sizedMet enc PP Go.Proofs.Tryd.f5 (OpenSpec.ofChange Rows.jsonvalueDepthSpec) false w args)
      (Rows.jsonvalueDepthSpec.post enc PP Go.Proofs.Tryd.f5 false true false false) := by
  refine returnsInHanded_of_change_and (C := Go.Proofs.Tryd.checked) (X := fun w _ => laidMet PP Rows.jsonvalueDepthRow.laid w) (fun _ _ _ hh h => h.of_heap hh) own started (by kernel_rfl) Go.Proofs.Tryd.func5
    (ChangeSpec.witness_at (enc := enc) (C := Go.Proofs.Tryd.checked) (os := os) (X := fun w _ => laidMet PP Rows.jsonvalueDepthRow.laid w) false (laidWorld os) #[.int .u8 0, .bool false] 8 rfl (by kernel_rfl) (by kernel_rfl) (by kernel_rfl) (by kernel_rfl) (by kernel_rfl) (laidWorld_met os _)) ?_
  intro W base args ds gs before hval0 hW _ _ hL _
  have hval : ∀ (j : Nat) t v, Go.Proofs.Tryd.f5.params[j]? = some t → args[j]? = some v → Value.okWide PP W .any base t v := hval0
  have hW' := hW
  obtain ⟨p, q, hA0, hV, rfl, hfz, hnd⟩ := hW
  have hA : DataW.TrodAll enc PP W 0 (fun _ => true) true Go.Proofs.Tryd.f5.params.toList args.toList ds p := hA0
  rw [Go.Proofs.Tryd.params5] at hA hval
  obtain ⟨v0, v1, d0, d1, p0, p1, rfl, rfl, rfl, h0, h1⟩ := trodAll_two hA
  obtain ⟨x0, rfl, rfl, rfl, b0⟩ := open_int u_u8 (hval 0 5 v0 rfl rfl) h0
  obtain ⟨x1, rfl, rfl, rfl⟩ := open_bool u_bool (hval 1 4 v1 rfl rfl) h1
  have hG := gok_of_laid hL (by simp [Rows.jsonvalueDepthRow]) (by simp [Rows.jsonvalueDepthRow]) (by simp [Rows.jsonvalueDepthRow]) (by simp [Rows.jsonvalueDepthRow]) (by simp [Rows.jsonvalueDepthRow])
  have hC := law_calls (X := Xc) (W := W) (args := [.int .u8 x0, .bool x1]) (us := [.int .u8 x0, .bool x1]) (f := 5) (law11Depth_C (by have := b0; simpa [Lit.wf, IntKind.min, IntKind.max, IntKind.signed, IntKind.bits] using this) rfl) hG ⟨rfl, fun i hi => by
    match i, hi with
    | 0, _ => exact .int _ _
    | 1, _ => exact .bool x1⟩
  refine hC.mono fun e W' ⟨he, hb⟩ => ⟨_, he, law_post rfl (by kernel_rfl) (by kernel_rfl) (fun hg => by subst hg; rfl) hW' hb⟩

theorem jsonvalueDepth_row : Rows.JsonvalueDepthSaid :=
  OpenClaim.holds_of_wide 5 Go.Proofs.Tryd.f5 rfl rfl rfl rfl rfl rfl rfl ⟨rfl, rfl, rfl, rfl, rfl⟩ rfl rfl rfl rfl rfl (by kernel_rfl) Go.Proofs.Tryd.func5 (by kernel_rfl)
    (of_decide_eq_true (by kernel_rfl)) (by unfold Func.isWrapper; rw [if_neg (of_decide_eq_false (by kernel_rfl))]; exact ⟨rfl, rfl⟩)
    (fun os started H enc _ => jsonvalueDepth_lifted os started H enc)

theorem jsonvalueDepth_card : Rows.JsonvalueDepthCardSaid :=
  Claim7.holds_tied_plain_at .later [] [.data, .data, .data, .data, .sentinel, .sentinel, .data, .pinned] true (true, "96ebcd071a44423fa6172b6e05294c4e6cb951c42bcff84d9bdb0ef5f319f581") true
    jsonvalueDepth_row (fun _ h => by cases h) (by kernel_rfl) (fun _ h => by cases h) jsonvalueDepth_row_tie rfl ⟨rfl, rfl⟩ (by kernel_rfl) rfl
    (fun f fn hf hfn => by
      obtain rfl : f = 5 := Option.some.inj ((show PP.funcNamed "feedvault/feedvaultlaw11.JsonvalueDepth" = some 5 by kernel_rfl).symm.trans hf) |>.symm
      obtain rfl : fn = Go.Proofs.Tryd.f5 := (Option.some.inj (Go.Proofs.Tryd.func5.symm.trans hfn)).symm
      refine ⟨by kernel_rfl, fun j t ht => ?_⟩
      rw [Go.Proofs.Tryd.params5] at ht
      match j, ht with
      | 0, ht => simp at ht; subst ht; exact (show PP.wantsStandIn 5 = false by kernel_rfl)
      | 1, ht => simp at ht; subst ht; exact (show PP.wantsStandIn 4 = false by kernel_rfl)
      | j + 2, ht => simp at ht)
    (by kernel_rfl)
#print axioms jsonvalueDepth_card
end Go.Proofs.YtgdcdkgmeomhpaaDoor
