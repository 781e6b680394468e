/- Parts of the proof, joined: The value semantics, part O: control, calls; what is shown of the abstract run holds of the program's. The value semantics, part P: a region that draws its order, none of whose items turns the abstract store. The value semantics, part Q: what a call leaves behind is forgotten; bodies of functions. The value semantics, part X: an append whose new element is stored behind it (the translator's 'append in place'). The value semantics, part Y: regions that end with an append in place. The value semantics, part R: the ends of calls; bodies of functions. The value semantics, part S: functions. The value semantics, part T: small laws for walking (printed by wip/tools/gen_t.py). The value semantics, part W: what a call that forgets what it made must show; functions by their bodies where the store is well formed. The value semantics, part Z: a function that defers a closure that recovers. -/
import Derived.Tactics
import Derived.Deep.LoopGhost
import Derived.Scope
import Derived.Recover
import Derived.Test.YtgdcdkgmeomhpaaDoorDe1
set_option linter.unusedVariables false
set_option linter.unusedSimpArgs false

namespace Go.Vs

structure Ctx where
  P : Program
  G : List (Nat × List V)

inductive VAct where
  | op (o : VOp)
  | call (f : FuncId) (as : List Opd)
  | callV (x : Opd) (as : List Opd)
  | panic (x : Opd)

structure VItem where
  dst : Option Nat
  guard : Option (Nat × Bool)
  act : VAct

/-- An item of a region that draws its order: is it one that may turn the store? Then: the items to be looked at again behind it. -/
structure VD where
  it : VItem
  again : Option (List VItem)

/-- The end of a region in which a slice is made longer by one element, the element is stored and the slice is stored in a field, in an order that is drawn. -/
structure VTail where
  e : TypeId
  sz : Nat
  z : List V
  x : Opd
  y : Opd
  n : Opd
  v : Opd
  s : Opd
  off : Nat
  d8 : Nat
  d9 : Nat
  d10 : Nat

inductive VCode where
  | skip
  | tail (t : VTail)
  | reg (items : List VItem)
  | draw (items : List VD)
  | seq (a b : VCode)
  | cond (c : Opd) (a b : VCode)
  | block (id : Nat) (b : VCode)
  | loop (b : VCode)
  | exit (id : Nat)
  | ret
  | stop

inductive Out where
  | ret (v : V)
  | pan (v : V)

def RO (μ : Mem) (w : World) : Out → Ending → Prop
  | .ret v, e => ∃ u, RV μ w v u ∧ e = .returned u
  | .pan v, e => ∃ u, RV μ w v u ∧ e = .panicked [{ v := u, recovered := false }]

/-- The run has come to an ending that the abstract one tells. -/
def Sims (μ : Mem) (w : World) (Q : Out → St → Prop) : Ending → World → Prop := fun e w' =>
  ∃ μ' σ' out, Q out σ' ∧ Ev μ w μ' w' ∧ Rel μ' σ' w' ∧ RO μ' w' out e

def callable (P : Program) (f : FuncId) : Bool :=
  match P.funcs[f]? with
  | some fn => fn.body.isSome && fn.name != "runtime.NumGoroutine"
  | none => false

/-- A CALL: in whatever memory the abstract store and the arguments lie, the call comes to an ending of which Q holds. -/
def C (X : Ctx) (f : FuncId) (args : List V) (σ : St) (Q : Out → St → Prop) : Prop :=
  callable X.P f = true ∧ ∀ μ w us, μ.G = X.G → Rel μ σ w → RVs μ w args us → Calls X.P f us.toArray w (Sims μ w Q)

theorem C.mono {X : Ctx} {f : FuncId} {args : List V} {σ : St} {Q Q' : Out → St → Prop} (h : C X f args σ Q) (hq : ∀ o σ, Q o σ → Q' o σ) : C X f args σ Q' :=
  ⟨h.1, fun μ w us h1 h2 h3 => (h.2 μ w us h1 h2 h3).mono fun _ _ ⟨μ', σ', out, q, r⟩ => ⟨μ', σ', out, hq _ _ q, r⟩⟩

inductive VEx where
  | norm
  | exit (id : Nat)
  | ret
  | pan (v : V)

def wantV (want : Bool) : V → Bool
  | .bool b => b == want
  | _ => false

def wantedV (g : Option (Nat × Bool)) (fr : Fr) : Bool :=
  match g with
  | none => true
  | some g => wantV g.2 (fr g.1)

/-- The continuations of the walk, each under a name: nothing is opened before it is reached. -/
def retK (K : Out → St → Prop) (v : V) (σ : St) : Prop := K (.ret v) σ

def evs (fr : Fr) (as : List Opd) : List V := as.map (·.ev fr)

/-- A call of a function value. -/
def callVK (X : Ctx) (f : V) (args : List V) (σ : St) (K : Out → St → Prop) : Prop :=
  match f with
  | .fn (.func f) first cap => C X f (first ++ args ++ cap) σ K
  | _ => False

def panK (v : V) (σ : St) (K : Out → St → Prop) : Prop :=
  match v with
  | .iface t v => K (.pan (.iface t v)) σ
  | _ => False

/-- One item: what it hands on, in which store; or it panics. -/
def actV (X : Ctx) (x : VAct) (fr : Fr) (σ : St) (K : Out → St → Prop) : Prop :=
  match x with
  | .op o => vop X.G o fr σ (retK K)
  | .call f as => C X f (evs fr as) σ K
  | .callV x as => callVK X (x.ev fr) (evs fr as) σ K
  | .panic x => panK (x.ev fr) σ K

def itK (next : Fr → St → Prop) (K : VEx → Fr → St → Prop) (dst : Option Nat) (fr : Fr) : Out → St → Prop
  | .ret v, σ => next (putO fr dst v) σ
  | .pan v, σ => K (.pan v) fr σ

/-- Two ways. -/
def chooseK (b : Bool) (yes no : Fr → St → Prop) (fr : Fr) (σ : St) : Prop :=
  match b with
  | true => yes fr σ
  | false => no fr σ

theorem chooseK_true (yes no : Fr → St → Prop) (fr : Fr) (σ : St) : chooseK true yes no fr σ = yes fr σ := rfl
theorem chooseK_false (yes no : Fr → St → Prop) (fr : Fr) (σ : St) : chooseK false yes no fr σ = no fr σ := rfl
theorem chooseK_not (b : Bool) (yes no : Fr → St → Prop) (fr : Fr) (σ : St) : chooseK (!b) yes no fr σ = chooseK b no yes fr σ := by cases b <;> rfl
theorem chooseK_split {b : Bool} {yes no : Fr → St → Prop} {fr : Fr} {σ : St} (h1 : b = true → yes fr σ) (h2 : b = false → no fr σ) : chooseK b yes no fr σ := by
  cases b
  · exact h2 rfl
  · exact h1 rfl

def condK (v : V) (yes no : Fr → St → Prop) (fr : Fr) (σ : St) : Prop :=
  match v with
  | .bool b => chooseK b yes no fr σ
  | _ => False

def doIt (X : Ctx) (K : VEx → Fr → St → Prop) (it : VItem) (next : Fr → St → Prop) (fr : Fr) (σ : St) : Prop := actV X it.act fr σ (itK next K it.dst fr)
def skipIt (it : VItem) (next : Fr → St → Prop) (fr : Fr) (σ : St) : Prop := next (putO fr it.dst .und) σ

def Wit (X : Ctx) (K : VEx → Fr → St → Prop) : List VItem → Fr → St → Prop
  | [], fr, σ => K .norm fr σ
  | it :: rest, fr, σ => chooseK (wantedV it.guard fr) (doIt X K it (Wit X K rest)) (skipIt it (Wit X K rest)) fr σ

/-- The store is as it was. -/
def sameK (next : Fr → St → Prop) (dst : Option Nat) (fr : Fr) (σ : St) (v : V) (σ' : St) : Prop := σ' = σ ∧ next (putO fr dst v) σ

def isRet (v : V) (σ : St) : Out → St → Prop := fun out σ' => out = .ret v ∧ σ' = σ

/-- A call that leaves the store as it is. -/
def callD (X : Ctx) (f : FuncId) (args : List V) (σ : St) (next : V → St → Prop) : Prop := ∃ v, C X f args σ (isRet v σ) ∧ next v σ

theorem callD_intro {X : Ctx} {f : FuncId} {args : List V} {σ : St} {next : V → St → Prop} (v : V) (h : C X f args σ (isRet v σ)) (k : next v σ) : callD X f args σ next := ⟨v, h, k⟩

def callDVK (X : Ctx) (f : V) (args : List V) (σ : St) (K : V → St → Prop) : Prop :=
  match f with
  | .fn (.func f) first cap => callD X f (first ++ args ++ cap) σ K
  | _ => False

def actD (X : Ctx) (x : VAct) (fr : Fr) (σ : St) (K : V → St → Prop) : Prop :=
  match x with
  | .op o => vop X.G o fr σ K
  | .call f as => callD X f (evs fr as) σ K
  | .callV x as => callDVK X (x.ev fr) (evs fr as) σ K
  | .panic _ => False

def doItD (X : Ctx) (it : VItem) (next : Fr → St → Prop) (fr : Fr) (σ : St) : Prop := actD X it.act fr σ (sameK next it.dst fr σ)

/-- It shows what it showed, and the store is as it was. -/
def sameV (fr : Fr) (dst : Option Nat) (σ : St) (v : V) (σ' : St) : Prop := σ' = σ ∧ ∀ d, dst = some d → v = fr d

def againIt (X : Ctx) (it : VItem) (fr : Fr) (σ : St) : Prop := actD X it.act fr σ (sameV fr it.dst σ)
def trueK (_ : Fr) (_ : St) : Prop := True

/-- Items that may come up behind one that turns the store. -/
def againK (X : Ctx) (next : Fr → St → Prop) : List VItem → Fr → St → Prop
  | [], fr, σ => next fr σ
  | it :: r, fr, σ => chooseK (wantedV it.guard fr) (againIt X it) trueK fr σ ∧ againK X next r fr σ

/-- Whatever the frame. -/
def panAll (K : VEx → Fr → St → Prop) (v : V) (σ : St) : Prop := ∀ fr, K (.pan v) fr σ

def loudK (X : Ctx) (K : VEx → Fr → St → Prop) (ag : List VItem) (next : Fr → St → Prop) (dst : Option Nat) (fr : Fr) : Out → St → Prop
  | .ret v, σ => againK X next ag (putO fr dst v) σ
  | .pan v, σ => panAll K v σ

def doItL (X : Ctx) (K : VEx → Fr → St → Prop) (ag : List VItem) (it : VItem) (next : Fr → St → Prop) (fr : Fr) (σ : St) : Prop := actV X it.act fr σ (loudK X K ag next it.dst fr)

/-- A region that draws: its items in an order in which all that stands behind one that turns the store descends from it. -/
def Dit (X : Ctx) (K : VEx → Fr → St → Prop) : List VD → Fr → St → Prop
  | [], fr, σ => K .norm fr σ
  | ⟨it, none⟩ :: rest, fr, σ => chooseK (wantedV it.guard fr) (doItD X it (Dit X K rest)) (skipIt it (Dit X K rest)) fr σ
  | ⟨it, some ag⟩ :: rest, fr, σ => chooseK (wantedV it.guard fr) (doItL X K ag it (Dit X K rest)) (skipIt it (Dit X K rest)) fr σ

def seqK (next : Fr → St → Prop) (K : VEx → Fr → St → Prop) : VEx → Fr → St → Prop
  | .norm, fr, σ => next fr σ
  | .exit id, fr, σ => K (.exit id) fr σ
  | .ret, fr, σ => K .ret fr σ
  | .pan v, fr, σ => K (.pan v) fr σ

def blockK (id : Nat) (K : VEx → Fr → St → Prop) : VEx → Fr → St → Prop
  | .norm, fr, σ => K .norm fr σ
  | .exit i, fr, σ => if i = id then K .norm fr σ else K (.exit i) fr σ
  | .ret, fr, σ => K .ret fr σ
  | .pan v, fr, σ => K (.pan v) fr σ

/-- A round of a loop hands on the relation at a smaller number. -/
def Lower (I : Nat → Fr → St → Prop) (n : Nat) (fr : Fr) (σ : St) : Prop := ∃ n', n' < n ∧ I n' fr σ

def LoopP (body : (VEx → Fr → St → Prop) → Fr → St → Prop) (K : VEx → Fr → St → Prop) (fr : Fr) (σ : St) : Prop :=
  ∃ (I : Nat → Fr → St → Prop) (n : Nat), I n fr σ ∧ ∀ n fr σ, I n fr σ → body (seqK (Lower I n) K) fr σ

theorem LoopP.intro {body : (VEx → Fr → St → Prop) → Fr → St → Prop} {K : VEx → Fr → St → Prop} {fr : Fr} {σ : St} (I : Nat → Fr → St → Prop) (n : Nat) (h0 : I n fr σ)
    (h : ∀ n fr σ, I n fr σ → body (seqK (Lower I n) K) fr σ) : LoopP body K fr σ := ⟨I, n, h0, h⟩

def isLenV (x : V) (i : Int) : Prop :=
  match x with
  | .slc true xs _ => i = xs.length
  | .slc false _ _ => i = 0
  | _ => False

def isOneV (sz : Nat) (y : V) : Prop :=
  match y with
  | .slc true [y0] _ => y0.cells.length = sz
  | _ => False

def tailEnd (K : VEx → Fr → St → Prop) (t : VTail) (o a : Nat) (fr : Fr) (v8 : V) (σ : St) : Prop :=
  match σ.objs[o]? with
  | some cs => a + t.off + 1 ≤ cs.length ∧ K .norm (upd (upd (upd fr t.d8 v8) t.d9 (.eptr (t.v.ev fr).cells)) t.d10 (.ref (some (o, a + t.off)))) { σ with objs := σ.objs.set o (spl cs (a + t.off) [v8]) }
  | none => False

def tailW (K : VEx → Fr → St → Prop) (t : VTail) (fr : Fr) (σ : St) : Prop :=
  match t.n.ev fr, t.s.ev fr with
  | .int _ i, .ref (some (o, a)) => isLenV (t.x.ev fr) i ∧ isOneV t.sz (t.y.ev fr) ∧ vapp t.e t.sz σ (t.x.ev fr) [t.v.ev fr] (tailEnd K t o a fr)
  | _, _ => False

def W (X : Ctx) : VCode → (VEx → Fr → St → Prop) → Fr → St → Prop
  | .skip, K, fr, σ => K .norm fr σ
  | .tail t, K, fr, σ => tailW K t fr σ
  | .reg items, K, fr, σ => Wit X K items fr σ
  | .draw items, K, fr, σ => Dit X K items fr σ
  | .seq a b, K, fr, σ => W X a (seqK (W X b K) K) fr σ
  | .cond c a b, K, fr, σ => condK (c.ev fr) (W X a K) (W X b K) fr σ
  | .block id b, K, fr, σ => W X b (blockK id K) fr σ
  | .loop b, K, fr, σ => LoopP (W X b) K fr σ
  | .exit id, K, fr, σ => K (.exit id) fr σ
  | .ret, K, fr, σ => K .ret fr σ
  | .stop, _, _, _ => False

/-! ### How the program's code is read -/
def cact (P : Program) (m : Nat) (o : Oper) : Option VAct :=
  match o.op with
  | .call { callee := .value f, args, .. } =>
    match f with
    | .func f => if callable P f then (args.toList.mapM (copd m)).map (.call f) else (cext P m f args.toList).map .op
    | _ => do pure (.callV (← copd m f) (← args.toList.mapM (copd m)))
  | .panic x => (copd m x).map .panic
  | _ => (cop P m o).map .op

def cguard (m : Nat) (ops : Array Oper) : Option (Nat × Bool) → Option (Option (Nat × Bool))
  | none => some none
  | some (j, want) => match (ops[j]?).bind (·.dst) with
    | some t => if t < m then some (some (t, want)) else none
    | none => none

def citem (P : Program) (m : Nat) (ops : Array Oper) (o : Oper) : Option VItem := do
  pure { dst := o.dst, guard := (← cguard m ops o.guard), act := (← cact P m o) }

def citems (P : Program) (m : Nat) (ops : Array Oper) : List Oper → Option (List VItem)
  | [] => some []
  | o :: rest => do pure ((← citem P m ops o) :: (← citems P m ops rest))

/-! ### Frames -/
structure FrRel (m : Nat) (μ : Mem) (w : World) (fr : Fr) (a : Act) : Prop where
  size : a.tmps.size = m
  rel : ∀ t, t < m → RV μ w (fr t) (a.tmps.getD t undef)

section
variable {X : Ctx} {m : Nat} {μ : Mem} {w : World} {fr : Fr} {σ : St} {a : Act}

theorem FrRel.mono {μ' : Mem} {w' : World} (he : Ev μ w μ' w') (h : FrRel m μ w fr a) : FrRel m μ' w' fr a := ⟨h.size, fun t ht => (h.rel t ht).mono he⟩

theorem FrRel.ops (h : FrRel m μ w fr a) : Ops m μ w fr a.eval := fun x y hxy =>
  copd_const (m := m) (fun t ht => h.rel t ht) (fun _ => rfl) (fun _ => rfl) (fun _ => rfl) hxy

theorem FrRel.put (h : FrRel m μ w fr a) (d : Option Nat) {v : V} {u : Value} (hv : RV μ w v u) : FrRel m μ w (putO fr d v) (a.put d u) := by
  cases d with
  | none => exact h
  | some d =>
    refine ⟨by simp only [Act.put, Array.size_setIfInBounds]; exact h.size, fun t ht => ?_⟩
    have hsz := h.size
    simp only [putO, upd, Act.put]
    by_cases e : t = d
    · subst e
      rw [if_pos rfl]
      have : (a.tmps.setIfInBounds t u).getD t undef = u := by simp [hsz, ht]
      rw [this]; exact hv
    · rw [if_neg e]
      have : (a.tmps.setIfInBounds d u).getD t undef = a.tmps.getD t undef := by
        simp [Array.getElem?_setIfInBounds_ne (Ne.symm e)]
      rw [this]; exact h.rel t ht

theorem wanted_eq (h : FrRel m μ w fr a) {ops : Array Oper} {o : Oper} {g : Option (Nat × Bool)} (hg : cguard m ops o.guard = some g) : Region.wanted o (yielded ops a.tmps) = wantedV g fr := by
  unfold Region.wanted
  cases ho : o.guard with
  | none => rw [ho] at hg; simp only [cguard, Option.some.injEq] at hg; subst hg; rfl
  | some jw =>
    obtain ⟨j, want⟩ := jw
    rw [ho] at hg
    simp only [cguard] at hg
    split at hg
    · rename_i t ht
      split at hg
      · rename_i hlt
        simp only [Option.some.injEq] at hg
        subst hg
        have hv := h.rel t hlt
        have hget : a.tmps[t]? = some (a.tmps.getD t undef) := by
          rw [Array.getElem?_eq_getElem (by rw [h.size]; exact hlt)]
          simp [h.size, hlt]
        simp only [yielded, ht, Option.bind_some, hget, wantedV, wantV]
        generalize a.tmps.getD t undef = u at hv
        generalize fr t = vt at hv
        cases hv <;> rfl
      · cases hg
    · cases hg

/-- The exits, told. -/
def ER (μ : Mem) (w : World) : VEx → Exit → Prop
  | .norm, e => e = .normal
  | .exit id, e => e = .exit id
  | .ret, e => e = .ret
  | .pan v, e => ∃ u, RV μ w v u ∧ e = .panic [{ v := u, recovered := false }]

def KR (m : Nat) (μ : Mem) (w : World) (ds : List Deferred) (K : VEx → Fr → St → Prop) : Exit → Act → World → Prop := fun e a' w' =>
  ∃ ve fr' σ' μ', K ve fr' σ' ∧ Ev μ w μ' w' ∧ Rel μ' σ' w' ∧ FrRel m μ' w' fr' a' ∧ a'.defers = ds ∧ ER μ' w' ve e

theorem KR.trans {μ₁ : Mem} {w₁ : World} {ds : List Deferred} {K : VEx → Fr → St → Prop} (he : Ev μ w μ₁ w₁) {e : Exit} {a' : Act} {w' : World} (h : KR m μ₁ w₁ ds K e a' w') : KR m μ w ds K e a' w' := by
  obtain ⟨ve, fr', σ', μ', h1, h2, h3⟩ := h
  exact ⟨ve, fr', σ', μ', h1, he.trans h2, h3⟩

theorem put_defers (a : Act) (d : Option Nat) (v : Value) : (a.put d v).defers = a.defers := by cases d <;> rfl

theorem callFunc_run {P : Program} {f : FuncId} (h : callable P f = true) (args : Array Value) (w : World) : (callFunc f args).run P w = .ok (.enter f args) w := by
  unfold callable at h
  split at h
  · rename_i fn hfn
    simp only [Bool.and_eq_true, bne_iff_ne, ne_eq] at h
    obtain ⟨h1, h2⟩ := h
    obtain ⟨b, hb⟩ := Option.isSome_iff_exists.1 h1
    simp [callFunc, hfn, h2, hb]
  · cases h

/-- What one item shows of the operation behind it. -/
theorem act_sound {o : Oper} {x : VAct} (hc : cact X.P m o = some x) (hG : μ.G = X.G) (hrel : Rel μ σ w) (hfr : FrRel m μ w fr a) {K : Out → St → Prop} (h : actV X x fr σ K)
    {next : Act → World → Prop} {Q : Exit → Act → World → Prop}
    (hret : ∀ v u σ' w' μ', K (.ret v) σ' → Ev μ w μ' w' → Rel μ' σ' w' → RV μ' w' v u → next (a.put o.dst u) w')
    (hpan : ∀ v u σ' w' μ', K (.pan v) σ' → Ev μ w μ' w' → Rel μ' σ' w' → RV μ' w' v u → Q (.panic [{ v := u, recovered := false }]) a w') : o.wp X.P a w next Q := by
  have calls : ∀ f vs us, C X f vs σ K → RVs μ w vs us → (execOp a.eval o).run X.P w = .ok (.enter f us.toArray) w → o.wp X.P a w next Q := by
    intro f vs us hC hvs hrun
    unfold Oper.wp
    rw [hrun]
    refine (hC.2 μ w us hG hrel hvs).mono ?_
    rintro e w' ⟨μ', σ', out, hq, hev, hrel', hro⟩
    cases out with
    | ret v => obtain ⟨u, hu, rfl⟩ := hro; exact hret v u σ' w' μ' hq hev hrel' hu
    | pan v => obtain ⟨u, hu, rfl⟩ := hro; exact hpan v u σ' w' μ' hq hev hrel' hu
  have plain : ∀ vo, cop X.P m o = some vo → vop X.G vo fr σ (retK K) → o.wp X.P a w next Q := by
    intro vo hvo hv
    rw [← hG] at hv
    obtain ⟨v, σ', u, w', μ', hr, hev, hrel', hu, hk⟩ := cop_sound hvo hrel hfr.ops hv
    unfold Oper.wp
    rcases hr with hr | ⟨hr, rfl⟩
    · rw [hr]; exact hret v u σ' w' μ' hk hev hrel' hu
    · rw [hr]; exact hret v _ σ' w' μ' hk hev hrel' hu
  obtain ⟨dst, op, type, pos, after, guard⟩ := o
  unfold cact at hc
  split at hc
  · rename_i f args atys hop
    simp only at hop
    subst hop
    split at hc
    · rename_i f
      split at hc
      · rename_i hcal
        simp only [Option.map_eq_some_iff] at hc
        obtain ⟨as, has, rfl⟩ := hc
        have hvs := mapM_copd hfr.ops has
        refine calls f _ _ h hvs ?_
        have e : args.map a.eval = (args.toList.map a.eval).toArray := by cases args; simp
        simp only [execOp, resolve, Deferred.ofValue, Act.eval, Sem.run_bind, Sem.run_pure, Result.andThen_ok, invoke]
        have e' : (args.map fun x => a.eval x) = (args.toList.map a.eval).toArray := e
        simp only [Array.empty_append, Array.append_empty]
        rw [callFunc_run hcal, e']
      · simp only [Option.map_eq_some_iff] at hc
        obtain ⟨vo, hvo, rfl⟩ := hc
        have hv : vop X.G vo fr σ (retK K) := h
        rw [← hG] at hv
        obtain ⟨v, σ', u, w', μ', hr, hev, hrel', hu, hk⟩ := cext_sound hvo hrel hfr.ops hv
        have e : args.map a.eval = (args.toList.map a.eval).toArray := by cases args; simp
        have hrun : (execOp a.eval ⟨dst, .call ⟨.value (.func f), args, atys⟩, type, pos, after, guard⟩).run X.P w = (callFunc f (args.toList.map a.eval).toArray).run X.P w := by
          simp only [execOp, resolve, Deferred.ofValue, Act.eval, Sem.run_bind, Sem.run_pure, Result.andThen_ok, invoke]
          have e' : (args.map fun x => a.eval x) = (args.toList.map a.eval).toArray := e
          simp only [Array.empty_append, Array.append_empty]
          rw [e']
        unfold Oper.wp
        rw [hrun]
        rcases hr with hr | ⟨hr, rfl⟩
        · rw [hr]; exact hret v u σ' w' μ' hk hev hrel' hu
        · rw [hr]; exact hret v _ σ' w' μ' hk hev hrel' hu
    · rename_i hnf
      simp only [Option.bind_eq_bind, Option.bind_eq_some_iff, Option.pure_def, Option.some.injEq] at hc
      obtain ⟨x', hx, as, has, rfl⟩ := hc
      have hvx := hfr.ops _ _ hx
      have hvs := mapM_copd hfr.ops has
      simp only [actV, callVK] at h
      split at h
      · rename_i g first cap hxe
        rw [hxe] at hvx
        generalize hu : a.eval f = u at hvx
        cases hvx with
        | fn fn fs cs us vs h1 h2 h3 h4 =>
          refine calls g _ (us ++ args.toList.map a.eval ++ vs) h (((RVs.append ⟨h1, h2⟩ hvs).append ⟨h3, h4⟩)) ?_
          have e : args.map a.eval = (args.toList.map a.eval).toArray := by cases args; simp
          simp only [execOp, resolve, Sem.run_bind, hu, Deferred.ofValue, Sem.run_pure, Result.andThen_ok, invoke]
          rw [callFunc_run h.1]
          simp
      · exact h.elim
  · rename_i x' hop
    simp only at hop
    subst hop
    simp only [Option.map_eq_some_iff] at hc
    obtain ⟨y, hy, rfl⟩ := hc
    have hv := hfr.ops _ _ hy
    simp only [actV, panK] at h
    split at h
    · rename_i t v hye
      rw [hye] at hv
      unfold Oper.wp
      generalize hu : a.eval x' = u at hv
      cases hv with
      | iface _ _ u' hu' =>
        have hrun : (execOp a.eval ⟨dst, .panic x', type, pos, after, guard⟩).run X.P w = .halt (.panic (.iface t u')) w := by
          simp [execOp, hu, Instr.panic]
        rw [hrun]
        exact hpan _ _ σ w μ h (Ev.refl μ w) hrel (.iface _ _ _ hu')
    · exact h.elim
  · simp only [Option.map_eq_some_iff] at hc
    obtain ⟨vo, hvo, rfl⟩ := hc
    exact plain vo hvo h

/-- The items of a region that does not draw. -/
theorem Wit_sound {ops : Array Oper} {K : VEx → Fr → St → Prop} : ∀ (os : List Oper) (items : List VItem) (fr : Fr) (σ : St) (μ : Mem) (w : World) (a : Act), citems X.P m ops os = some items → μ.G = X.G → Rel μ σ w → FrRel m μ w fr a →
    Wit X K items fr σ → ∀ Q : Exit → Act → World → Prop, (∀ e a' w', KR m μ w a.defers K e a' w' → Q e a' w') → wpList X.P ops Q os a w
  | [], items, fr, σ, μ, w, a, hc, hG, hrel, hfr, h, Q, hQ => by
    simp only [citems, Option.some.injEq] at hc
    subst hc
    exact hQ _ _ _ ⟨.norm, fr, σ, μ, h, Ev.refl μ w, hrel, hfr, rfl, rfl⟩
  | o :: os, items, fr, σ, μ, w, a, hc, hG, hrel, hfr, h, Q, hQ => by
    simp only [citems, citem, Option.bind_eq_bind, Option.bind_eq_some_iff, Option.pure_def, Option.some.injEq] at hc
    obtain ⟨it, ⟨g, hg, x, hx, rfl⟩, rest, hrest, rfl⟩ := hc
    simp only [Wit] at h
    simp only [wpList]
    rw [wanted_eq hfr hg]
    cases hw : wantedV g fr with
    | true =>
      rw [hw] at h
      rw [if_pos rfl]
      refine .inl (act_sound hx hG hrel hfr (h : actV X x fr σ _) ?_ ?_)
      · intro v u σ' w' μ' hk hev hrel' hu
        refine Wit_sound os rest _ σ' μ' w' _ hrest (hev.G.trans hG) hrel' ((hfr.mono hev).put o.dst hu) hk Q (fun e a' w'' hkr => hQ _ _ _ ?_)
        rw [put_defers] at hkr
        exact hkr.trans hev
      · intro v u σ' w' μ' hk hev hrel' hu
        exact hQ _ _ _ ⟨.pan v, fr, σ', μ', hk, hev, hrel', hfr.mono hev, rfl, u, hu, rfl⟩
    | false =>
      rw [hw] at h
      rw [if_neg (by simp)]
      refine Wit_sound os rest _ σ μ w _ hrest hG hrel (hfr.put o.dst (v := .und) (u := undef) (RV.mkTup (cs := []) (us := []) ⟨rfl, fun i hi => by simp at hi⟩)) h Q (fun e a' w'' hkr => hQ _ _ _ ?_)
      rw [put_defers] at hkr
      exact hkr

end
end Go.Vs

namespace Go.Vs

def VOp.opds : VOp → List Opd
  | .mov x | .box _ x | .loadL x | .loadA _ x | .nilck x | .un _ x | .cvI _ x | .cvS x | .cvBS x | .cvSB x | .cvIS x | .mkI _ x | .fadr _ x | .fldL _ x | .fldA _ _ x | .tas _ x | .tasOk _ _ x | .ext x _ | .lenS x | .lenV x | .lenM x | .cvUP x | .cvPU _ _ x | .usd x => [x]
  | .pick c a b => [c, a, b]
  | .alloc _ _ | .lenA _ | .mkM => []
  | .build _ ps => ps.map (·.2)
  | .bslc _ ps => ps
  | .store _ x v => [x, v]
  | .bin _ x y | .eqB _ x y | .eqN _ _ x y | .iadV _ x y | .iadA _ _ x y | .idxS x y | .idxL _ x y | .idxA _ _ x y | .app _ _ _ x y | .appS _ x y | .look _ _ _ x y | .eqP _ x y | .ustr _ x y | .ixB x y => [x, y]
  | .mkF _ fs cs => fs ++ cs
  | .slS x lo hi | .slV _ x lo hi => x :: lo.toList ++ hi.toList
  | .mx xs | .mn xs => xs
  | .mset _ x i v => [x, i, v]

def VAct.opds : VAct → List Opd
  | .op o => o.opds
  | .call _ as => as
  | .callV x as => x :: as
  | .panic x => [x]

theorem vop_congr {G : List (Nat × List V)} {o : VOp} {fr fr' : Fr} {σ : St} {K : V → St → Prop} (h : ∀ x ∈ o.opds, x.ev fr = x.ev fr') : vop G o fr σ K = vop G o fr' σ K := by
  have mp : ∀ l : List Opd, (∀ x ∈ l, x.ev fr = x.ev fr') → l.map (fun y => y.ev fr) = l.map (fun y => y.ev fr') := fun l hl => List.map_congr_left hl
  have mo : ∀ l : Option Opd, (∀ x ∈ l.toList, x.ev fr = x.ev fr') → l.map (fun y => y.ev fr) = l.map (fun y => y.ev fr') := fun l hl => by
    cases l with
    | none => rfl
    | some x => simp [hl x (by simp)]
  cases o <;> simp only [VOp.opds, List.mem_cons, List.not_mem_nil, or_false, forall_eq_or_imp, forall_eq, List.mem_append] at h
  case build z ps =>
    have e : (ps.map fun p => (p.1.1, p.1.2, p.2.ev fr)) = (ps.map fun p => (p.1.1, p.1.2, p.2.ev fr')) := List.map_congr_left fun p hp => by
      rw [h p.2 (List.mem_map.2 ⟨p, hp, rfl⟩)]
    simp only [vop, e]
  case bslc sz ps => simp only [vop, mp ps h]
  case mkF f fs cs => simp only [vop, mp fs fun x hx => h x (.inl hx), mp cs fun x hx => h x (.inr hx)]
  case slS x lo hi => simp only [vop, h x (.inl (.inl rfl)), mo lo fun y hy => h y (.inl (.inr hy)), mo hi fun y hy => h y (.inr hy)]
  case slV sz x lo hi => simp only [vop, h x (.inl (.inl rfl)), mo lo fun y hy => h y (.inl (.inr hy)), mo hi fun y hy => h y (.inr hy)]
  case mx xs => simp only [vop, mp xs h]
  case mn xs => simp only [vop, mp xs h]
  all_goals first
    | (simp only [vop]; done)
    | (simp only [vop, h]; done)
    | (simp only [vop, h.1, h.2]; done)
    | (simp only [vop, h.1, h.2.1, h.2.2]; done)

theorem actV_congr {X : Ctx} {x : VAct} {fr fr' : Fr} {σ : St} {K : Out → St → Prop} (h : ∀ y ∈ x.opds, y.ev fr = y.ev fr') : actV X x fr σ K = actV X x fr' σ K := by
  cases x with
  | op o =>
    show vop X.G o fr σ (retK K) = vop X.G o fr' σ (retK K)
    exact vop_congr h
  | call f as =>
    have : evs fr as = evs fr' as := List.map_congr_left h
    simp only [actV, this]
  | callV x as =>
    have h1 := h x List.mem_cons_self
    have : evs fr as = evs fr' as := List.map_congr_left fun y hy => h y (List.mem_cons_of_mem _ hy)
    simp only [actV, this, h1]
  | panic x =>
    have h1 := h x List.mem_cons_self
    simp only [actV, h1]

def Opd.tmps : Opd → List Nat
  | .t n => [n]
  | .c _ => []

/-- The temporaries that an item looks at. -/
def VItem.looks (it : VItem) : List Nat := it.act.opds.flatMap Opd.tmps ++ (match it.guard with | some (t, _) => [t] | none => [])

theorem ev_congr {x : Opd} {fr fr' : Fr} (h : ∀ t ∈ x.tmps, fr t = fr' t) : x.ev fr = x.ev fr' := by
  cases x with
  | t n => exact h n (by simp [Opd.tmps])
  | c v => rfl

theorem item_congr {X : Ctx} {it : VItem} {fr fr' : Fr} {σ : St} {K : Out → St → Prop} (h : ∀ t ∈ it.looks, fr t = fr' t) : wantedV it.guard fr = wantedV it.guard fr' ∧ actV X it.act fr σ K = actV X it.act fr' σ K := by
  refine ⟨?_, actV_congr fun y hy => ev_congr fun t ht => h t (List.mem_append_left _ (List.mem_flatMap.2 ⟨y, hy, ht⟩))⟩
  unfold wantedV
  cases hg : it.guard with
  | none => rfl
  | some g =>
    simp only
    rw [h g.1 (by simp [VItem.looks, hg])]

/-- Which operations come before each: a number's bits. -/
def maskOf (acc : List Nat) (o : Oper) : Nat := o.after.toList.foldl (fun s e => if Region.binds .any e then s ||| (1 <<< e.on) ||| acc.getD e.on 0 else s) 0

def masksFrom : List Oper → List Nat → List Nat
  | [], acc => acc
  | o :: os, acc => masksFrom os (acc ++ [maskOf acc o])

def masks (ops : List Oper) : List Nat := masksFrom ops []

theorem fold_bit (acc : List Nat) (j : Nat) : ∀ (es : List Edge) (s : Nat), (es.foldl (fun s e => if Region.binds .any e then s ||| (1 <<< e.on) ||| acc.getD e.on 0 else s) s).testBit j = true →
    s.testBit j = true ∨ ∃ e ∈ es, Region.binds .any e = true ∧ (e.on = j ∨ (acc.getD e.on 0).testBit j = true)
  | [], s, h => .inl h
  | e :: es, s, h => by
    simp only [List.foldl_cons] at h
    rcases fold_bit acc j es _ h with h | ⟨e', he', h'⟩
    · split at h
      · rename_i hb
        simp only [Nat.testBit_or, Bool.or_eq_true] at h
        rcases h with (h | h) | h
        · exact .inl h
        · refine .inr ⟨e, List.mem_cons_self, hb, .inl ?_⟩
          rw [Nat.one_shiftLeft, Nat.testBit_two_pow] at h
          simpa using h
        · exact .inr ⟨e, List.mem_cons_self, hb, .inr h⟩
      · exact .inl h
    · exact .inr ⟨e', List.mem_cons_of_mem _ he', h'⟩

theorem masksFrom_get : ∀ (os : List Oper) (acc : List Nat) (i : Nat), (i < acc.length → (masksFrom os acc).getD i 0 = acc.getD i 0) ∧
    ∀ (k : Nat) (o : Oper), os[k]? = some o → (∀ e ∈ o.after.toList, Region.binds .any e = true → e.on < acc.length + k) → ∀ j, ((masksFrom os acc).getD (acc.length + k) 0).testBit j = true →
      ∃ e ∈ o.after.toList, Region.binds .any e = true ∧ (e.on = j ∨ ((masksFrom os acc).getD e.on 0).testBit j = true)
  | [], acc, i => ⟨fun _ => rfl, fun k o h => by simp at h⟩
  | o :: os, acc, i => by
    have ih := fun i => masksFrom_get os (acc ++ [maskOf acc o]) i
    have keep : ∀ i, i < acc.length → (masksFrom (o :: os) acc).getD i 0 = acc.getD i 0 := fun i hi => by
      rw [masksFrom, (ih i).1 (by simp; omega)]
      simp only [List.getD_eq_getElem?_getD, List.getElem?_append_left hi]
    refine ⟨keep i, fun k o' ho hb j hj => ?_⟩
    cases k with
    | zero =>
      simp only [List.getElem?_cons_zero, Option.some.injEq] at ho
      subst ho
      have e0 : (masksFrom (o :: os) acc).getD (acc.length + 0) 0 = maskOf acc o := by
        rw [masksFrom, (ih (acc.length + 0)).1 (by simp)]
        simp [List.getD_eq_getElem?_getD]
      rw [e0] at hj
      rcases fold_bit acc j _ _ hj with h | ⟨e, he, hbe, h⟩
      · simp at h
      · refine ⟨e, he, hbe, h.imp id fun h => ?_⟩
        rw [keep e.on (by have := hb e he hbe; omega)]
        exact h
    | succ k =>
      have := (ih 0).2 k o' (by simpa using ho) (fun e he hbe => by have := hb e he hbe; simp; omega) j (by
        rw [masksFrom] at hj
        have e : (acc ++ [maskOf acc o]).length + k = acc.length + (k + 1) := by simp; omega
        rw [e]; exact hj)
      rw [masksFrom]
      exact this

def dstAt (its : List VItem) (i : Nat) : Option Nat := (its[i]?).bind (·.dst)

def backOk : Nat → List Oper → Bool
  | _, [] => true
  | i, o :: os => (o.after.toList.all fun e => !Region.binds .any e || Nat.blt e.on i) && backOk (i + 1) os

/-- The temporaries that are written, with who writes them. -/
def dsOf : Nat → List VItem → List (Nat × Nat)
  | _, [] => []
  | i, it :: its => match it.dst with
    | some d => (d, i) :: dsOf (i + 1) its
    | none => dsOf (i + 1) its

def distOk : List (Nat × Nat) → Bool
  | [] => true
  | (d, _) :: r => (r.all fun x => !Nat.beq x.1 d) && distOk r

def findD (t : Nat) : List (Nat × Nat) → Option Nat
  | [] => none
  | (d, i) :: r => if Nat.beq d t then some i else findD t r

def looksOk (A : List Nat) (ds : List (Nat × Nat)) : Nat → List VItem → Bool
  | _, [] => true
  | i, it :: its => (it.looks.all fun t => match findD t ds with
      | some j => Nat.beq j i || (A.getD i 0).testBit j || (A.getD j 0).testBit i
      | none => true) && looksOk A ds (i + 1) its

def drawOk (ops : List Oper) (its : List VItem) : Bool :=
  Nat.beq ops.length its.length && backOk 0 ops && distOk (dsOf 0 its) && looksOk (masks ops) (dsOf 0 its) 0 its

def lexF (fr : Fr) (its : List VItem) (vs : List V) (k : Nat) : Fr := ((its.zip vs).take k).foldl (fun f p => putO f p.1.dst p.2) fr

section
variable {X : Ctx} {m : Nat} {μ : Mem} {w : World} {fr : Fr} {σ : St} {a : Act} {its : List VItem} {vs : List V}

/-- What one item shows, at its place. -/
def Shown (X : Ctx) (σ : St) (fr : Fr) (it : VItem) (v : V) : Prop :=
  (wantedV it.guard fr = true ∧ actV X it.act fr σ (isRet v σ)) ∨ (wantedV it.guard fr = false ∧ v = .und)

theorem vbin_det {op : BinOp} {x y : V} {σ : St} {K : V → St → Prop} (h : vbin op x y σ K) : ∃ v σ', K v σ' ∧ vbin op x y σ fun a b => a = v ∧ b = σ' := by
  unfold vbin at h ⊢
  split at h
  · rename_i k a k' b
    cases op <;> first
      | exact ⟨_, _, h.2, h.1, rfl, rfl⟩
      | exact ⟨_, _, h.2, h.1, by simp only [vbinI]; exact ⟨rfl, rfl⟩⟩
      | exact ⟨_, _, h.2.2, h.1, h.2.1, rfl, rfl⟩
  · cases op <;> first
      | exact h.elim
      | exact ⟨_, _, h, rfl, rfl⟩
      | exact ⟨_, _, h.2, h.1, rfl, rfl⟩
  · exact h.elim

theorem vcut_det {len : Nat} {lo hi : Option V} {K : Nat → Nat → Prop} (h : vcut len lo hi K) : ∃ l n, K l n ∧ vcut len lo hi fun a b => a = l ∧ b = n := by
  unfold vcut at h ⊢
  split at h <;> first
    | exact h.elim
    | exact ⟨_, _, h, rfl, rfl⟩
    | exact ⟨_, _, h.2, h.1, rfl, rfl⟩
    | exact ⟨_, _, h.2.2, h.1, h.2.1, rfl, rfl⟩

theorem vcut_mono {len : Nat} {lo hi : Option V} {K K' : Nat → Nat → Prop} (h : vcut len lo hi K) (hk : ∀ l n, K l n → K' l n) : vcut len lo hi K' := by
  unfold vcut at h ⊢
  split at h <;> first
    | exact h.elim
    | exact hk _ _ h
    | exact ⟨h.1, hk _ _ h.2⟩
    | exact ⟨h.1, h.2.1, hk _ _ h.2.2⟩

theorem vapp_det {e : TypeId} {sz : Nat} {x : V} {ys : List V} {σ : St} {K : V → St → Prop} (h : vapp e sz σ x ys K) : ∃ v σ', K v σ' ∧ vapp e sz σ x ys fun a b => a = v ∧ b = σ' := by
  obtain ⟨h0, h⟩ := h
  unfold vapp
  split at h
  · obtain ⟨h1, h⟩ := h
    split at h
    · rename_i e; exact ⟨_, _, h, h0, h1, by rw [if_pos e]; exact ⟨rfl, rfl⟩⟩
    · rename_i e; exact ⟨_, _, h, h0, h1, by rw [if_neg e]; exact ⟨rfl, rfl⟩⟩
  · obtain ⟨h1, h2, h⟩ := h
    split at h
    · rename_i e; exact ⟨_, _, h, h0, h1, h2, by rw [if_pos e]; exact ⟨rfl, rfl⟩⟩
    · rename_i e; exact ⟨_, _, h, h0, h1, h2, by rw [if_neg e]; exact ⟨rfl, rfl⟩⟩
  · obtain ⟨h1, h2, h3, h4, h5, h⟩ := h
    exact ⟨_, _, h, h0, h1, h2, h3, h4, h5, rfl, rfl⟩
  · exact h.elim

set_option maxHeartbeats 1000000 in
/-- An operation hands on one value, in one store. -/
theorem vop_det {G : List (Nat × List V)} {o : VOp} {K : V → St → Prop} (h : vop G o fr σ K) : ∃ v σ', K v σ' ∧ vop G o fr σ fun a b => a = v ∧ b = σ' := by
  cases o
  case bin op x y => exact vbin_det h
  case slS x lo hi =>
    simp only [vop] at h ⊢
    split at h
    · obtain ⟨l, n, h1, h2⟩ := vcut_det h
      exact ⟨_, _, h1, vcut_mono h2 fun a b ⟨e1, e2⟩ => by rw [e1, e2]; exact ⟨rfl, rfl⟩⟩
    · exact h.elim
  case slV sz x lo hi =>
    simp only [vop] at h ⊢
    split at h
    · obtain ⟨l, n, h1, h2⟩ := vcut_det h.2
      exact ⟨_, _, h1, h.1, vcut_mono h2 fun a b ⟨e1, e2⟩ => by rw [e1, e2]; exact ⟨rfl, rfl⟩⟩
    · obtain ⟨l, n, h1, h2⟩ := vcut_det h
      exact ⟨_, _, h1, vcut_mono h2 fun a b _ => ⟨rfl, rfl⟩⟩
    · exact h.elim
  case app e sz z x y =>
    simp only [vop] at h ⊢
    split at h
    · exact vapp_det h
    · exact h.elim
  case appS e x y =>
    simp only [vop] at h ⊢
    split at h
    · exact vapp_det h
    · exact h.elim
  case look q z ok x i =>
    simp only [vop] at h ⊢
    obtain ⟨h0, h⟩ := h
    split at h
    · exact ⟨_, _, h, h0, rfl, rfl⟩
    · split at h
      · rename_i r es hes
        obtain ⟨h1, h⟩ := h
        split at h
        · exact ⟨_, _, h, h0, h1, rfl, rfl⟩
        · exact ⟨_, _, h, h0, h1, rfl, rfl⟩
      · exact h.elim
    · exact h.elim
  case mset q x i v =>
    simp only [vop] at h ⊢
    obtain ⟨h0, h⟩ := h
    split at h
    · split at h
      · exact ⟨_, _, h.2, h0, h.1, rfl, rfl⟩
      · exact h.elim
    · exact h.elim
  case un op x =>
    simp only [vop, vun] at h ⊢
    split at h <;> first | exact h.elim | exact ⟨_, _, h, rfl, rfl⟩
  case tasOk t z x =>
    simp only [vop] at h ⊢
    split at h
    · split at h
      · rename_i e; exact ⟨_, _, h, by rw [if_pos e]; exact ⟨rfl, rfl⟩⟩
      · rename_i e; exact ⟨_, _, h, by rw [if_neg e]; exact ⟨rfl, rfl⟩⟩
    · exact ⟨_, _, h, rfl, rfl⟩
    · exact h.elim
  all_goals
    simp only [vop] at h ⊢
    first
      | exact ⟨_, _, h, rfl, rfl⟩
      | exact ⟨_, _, h.2, h.1, rfl, rfl⟩
      | exact ⟨_, _, h.2.2, h.1, h.2.1, rfl, rfl⟩
      | (split at h <;> first
          | exact h.elim
          | exact ⟨_, _, h, rfl, rfl⟩
          | exact ⟨_, _, h.2, h.1, rfl, rfl⟩
          | exact ⟨_, _, h.2.2, h.1, h.2.1, rfl, rfl⟩
          | exact ⟨_, _, h.2.2.2, h.1, h.2.1, h.2.2.1, rfl, rfl⟩
          | (split at h <;> first
              | exact h.elim
              | exact ⟨_, _, h, rfl, rfl⟩
              | exact ⟨_, _, h.2, h.1, rfl, rfl⟩
              | exact ⟨_, _, h.2.2, h.1, h.2.1, rfl, rfl⟩
              | exact ⟨_, _, h.2.2.2.2, h.1, h.2.1, h.2.2.1, h.2.2.2.1, rfl, rfl⟩
              | exact ⟨_, _, h.2.2.2, h.1, h.2.1, h.2.2.1, rfl, rfl⟩))

theorem actD_det {x : VAct} {H : V → Prop} (h : actD X x fr σ (fun v σ' => σ' = σ ∧ H v)) : ∃ v, actV X x fr σ (isRet v σ) ∧ H v := by
  cases x with
  | op o =>
    have h' : vop X.G o fr σ (fun v σ' => σ' = σ ∧ H v) := h
    obtain ⟨v, σ', ⟨rfl, hn⟩, hv⟩ := vop_det h'
    refine ⟨v, ?_, hn⟩
    have : (retK (isRet v σ') : V → St → Prop) = fun a b => a = v ∧ b = σ' := by
      funext a b
      simp [retK, isRet]
    show vop X.G o fr σ' (retK (isRet v σ'))
    rw [this]
    exact hv
  | call f as =>
    have h' : callD X f (evs fr as) σ (fun v σ' => σ' = σ ∧ H v) := h
    obtain ⟨v, hc, _, hn⟩ := h'
    exact ⟨v, hc, hn⟩
  | callV x as =>
    simp only [actD, callDVK] at h
    simp only [actV, callVK]
    split at h
    · obtain ⟨v, hc, _, hn⟩ := h
      exact ⟨v, hc, hn⟩
    · exact h.elim
  | panic x => exact (h : False).elim

/-- The frame when those of S have come up. -/
def frV (fr : Fr) (its : List VItem) (val : Nat → V) (S : Nat → Bool) : Fr := fun t =>
  match (List.range its.length).find? (fun j => dstAt its j == some t) with
  | some j => if S j then val j else fr t
  | none => fr t

theorem dstAt_lt {t j : Nat} (hj : dstAt its j = some t) : j < its.length := by
  rcases Nat.lt_or_ge j its.length with h | h
  · exact h
  · simp [dstAt, List.getElem?_eq_none h] at hj

theorem frV_none {val : Nat → V} {S : Nat → Bool} {t : Nat} (h : ∀ j, dstAt its j ≠ some t) : frV fr its val S t = fr t := by
  unfold frV
  rw [List.find?_eq_none.2 (fun j hj => by simpa using h j)]

theorem frV_some {val : Nat → V} {S : Nat → Bool} {t j : Nat} (hd : ∀ i i', i ≠ i' → dstAt its i = some t → dstAt its i' ≠ some t) (hj : dstAt its j = some t) : frV fr its val S t = if S j then val j else fr t := by
  unfold frV
  cases hf : (List.range its.length).find? (fun j => dstAt its j == some t) with
  | none =>
    have := List.find?_eq_none.1 hf j (by simpa using dstAt_lt hj)
    simp [hj] at this
  | some i =>
    have hi := List.find?_some hf
    simp only [beq_iff_eq] at hi
    have : i = j := Classical.byContradiction fun e => hd i j e hi hj
    subst this
    rfl

def setN (val : Nat → V) (i : Nat) (v : V) : Nat → V := fun j => if j = i then v else val j
def addS (S : Nat → Bool) (i : Nat) : Nat → Bool := fun j => j == i || S j

theorem frV_put {val : Nat → V} {S : Nat → Bool} {i : Nat} {v : V} {it : VItem} (hd : ∀ t i i', i ≠ i' → dstAt its i = some t → dstAt its i' ≠ some t) (hit : its[i]? = some it) (hS : S i = false) :
    frV fr its (setN val i v) (addS S i) = putO (frV fr its val S) it.dst v := by
  have hdi : dstAt its i = it.dst := by simp [dstAt, hit]
  funext t
  by_cases hex : ∃ j, dstAt its j = some t
  · obtain ⟨j, hjt⟩ := hex
    rw [frV_some (hd t) hjt]
    by_cases hji : j = i
    · subst hji
      rw [← hdi, hjt]
      simp [addS, setN, putO, upd]
    · have e1 : addS S i j = S j := by simp [addS, hji]
      have e2 : setN val i v j = val j := by simp [setN, hji]
      rw [e1, e2]
      have hne : it.dst ≠ some t := fun e => hd t j i hji hjt (by rw [hdi, e])
      cases hdst : it.dst with
      | none => simp only [putO]; rw [frV_some (hd t) hjt]
      | some d =>
        simp only [putO, upd]
        rw [if_neg (show ¬ t = d from fun e => hne (by rw [hdst, e])), frV_some (hd t) hjt]
  · have hno : ∀ j, dstAt its j ≠ some t := fun j e => hex ⟨j, e⟩
    rw [frV_none hno]
    have hne : it.dst ≠ some t := fun e => hno i (by rw [hdi, e])
    cases hdst : it.dst with
    | none => simp only [putO]; rw [frV_none hno]
    | some d =>
      simp only [putO, upd]
      rw [if_neg (show ¬ t = d from fun e => hne (by rw [hdst, e])), frV_none hno]

/-- The same frame where values that do not count differ, and where an item without a place comes up. -/
theorem frV_ext {val val' : Nat → V} {S S' : Nat → Bool} (h : ∀ j d, dstAt its j = some d → S j = S' j ∧ (S j = true → val j = val' j)) : frV fr its val S = frV fr its val' S' := by
  funext t
  unfold frV
  cases hf : (List.range its.length).find? (fun j => dstAt its j == some t) with
  | none => rfl
  | some i =>
    have hi := List.find?_some hf
    simp only [beq_iff_eq] at hi
    obtain ⟨h1, h2⟩ := h i t hi
    simp only [← h1]
    split
    · rename_i hs; exact h2 hs
    · rfl

/-- j comes before i. -/
def Anc (ops : List Oper) (j i : Nat) : Prop := ((masks ops).getD i 0).testBit j = true

/-- Distinct places, and what is asked of each operation. -/
structure DrawFacts (ops : List Oper) (its : List VItem) : Prop where
  len : ops.length = its.length
  back : ∀ (i : Nat) (o : Oper), ops[i]? = some o → ∀ e ∈ o.after.toList, Region.binds .any e = true → e.on < i
  anc : ∀ (i : Nat) (o : Oper), ops[i]? = some o → ∀ j, Anc ops j i → j < i ∧ ∃ e ∈ o.after.toList, Region.binds .any e = true ∧ (e.on = j ∨ Anc ops j e.on)
  dist : ∀ i i' t, i ≠ i' → dstAt its i = some t → dstAt its i' ≠ some t
  look : ∀ (i j : Nat) (it : VItem) (t : Nat), its[i]? = some it → j ≠ i → t ∈ it.looks → dstAt its j = some t → Anc ops j i ∨ Anc ops i j

theorem backOk_sound : ∀ (os : List Oper) (i : Nat), backOk i os = true → ∀ (k : Nat) (o : Oper), os[k]? = some o → ∀ e ∈ o.after.toList, Region.binds .any e = true → e.on < i + k
  | [], _, _, k, o, h, _, _, _ => by simp at h
  | o :: os, i, hb, k, o', ho, e, he, hbe => by
    simp only [backOk, Bool.and_eq_true, List.all_eq_true, Bool.or_eq_true, Bool.not_eq_true'] at hb
    cases k with
    | zero =>
      simp only [List.getElem?_cons_zero, Option.some.injEq] at ho
      subst ho
      rcases hb.1 e he with h | h
      · rw [h] at hbe; cases hbe
      · have := Nat.le_of_ble_eq_true h; omega
    | succ k =>
      have := backOk_sound os (i + 1) hb.2 k o' (by simpa using ho) e he hbe
      omega

theorem dsOf_mem : ∀ (its : List VItem) (i d j : Nat), (d, j) ∈ dsOf i its ↔ i ≤ j ∧ dstAt its (j - i) = some d
  | [], i, d, j => by simp [dsOf, dstAt]
  | it :: its, i, d, j => by
    have ih := dsOf_mem its (i + 1) d j
    have hs : i + 1 ≤ j → dstAt (it :: its) (j - i) = dstAt its (j - (i + 1)) := fun h => by
      simp only [dstAt]
      rw [show j - i = (j - (i + 1)) + 1 by omega, List.getElem?_cons_succ]
    have h0 : j = i → dstAt (it :: its) (j - i) = it.dst := fun h => by subst h; simp [dstAt]
    cases hd : it.dst with
    | none =>
      simp only [dsOf, hd, ih]
      constructor
      · rintro ⟨h1, h2⟩; exact ⟨by omega, by rw [hs h1]; exact h2⟩
      · rintro ⟨h1, h2⟩
        by_cases e : j = i
        · rw [h0 e, hd] at h2; cases h2
        · exact ⟨by omega, by rw [← hs (by omega)]; exact h2⟩
    | some d' =>
      simp only [dsOf, hd, List.mem_cons, Prod.mk.injEq, ih]
      constructor
      · rintro (⟨rfl, rfl⟩ | ⟨h1, h2⟩)
        · exact ⟨Nat.le_refl _, by rw [h0 rfl, hd]⟩
        · exact ⟨by omega, by rw [hs h1]; exact h2⟩
      · rintro ⟨h1, h2⟩
        by_cases e : j = i
        · rw [h0 e, hd] at h2
          simp only [Option.some.injEq] at h2
          exact .inl ⟨h2.symm, e⟩
        · exact .inr ⟨by omega, by rw [← hs (by omega)]; exact h2⟩

theorem distOk_inj : ∀ (ds : List (Nat × Nat)), distOk ds = true → ∀ x ∈ ds, ∀ y ∈ ds, x.1 = y.1 → x = y
  | [], _, x, hx, _, _, _ => by cases hx
  | (d, i) :: r, h, x, hx, y, hy, e => by
    simp only [distOk, Bool.and_eq_true, List.all_eq_true, Bool.not_eq_true'] at h
    have hne : ∀ z ∈ r, z.1 ≠ d := fun z hz e => by
      have := h.1 z hz
      rw [e, Nat.beq_refl] at this; cases this
    simp only [List.mem_cons] at hx hy
    rcases hx with rfl | hx <;> rcases hy with rfl | hy
    · rfl
    · exact absurd e.symm (hne y hy)
    · exact absurd e (hne x hx)
    · exact distOk_inj r h.2 x hx y hy e

theorem findD_mem : ∀ (ds : List (Nat × Nat)) (t j : Nat), (∀ x ∈ ds, ∀ y ∈ ds, x.1 = y.1 → x = y) → (t, j) ∈ ds → findD t ds = some j
  | [], t, j, _, h => by cases h
  | (d, i) :: r, t, j, hinj, h => by
    simp only [findD]
    by_cases e : d = t
    · subst e
      rw [if_pos (Nat.beq_refl d)]
      have := hinj _ h _ List.mem_cons_self rfl
      simp only [Prod.mk.injEq, true_and] at this
      rw [this]
    · rw [if_neg (fun h => e (Nat.eq_of_beq_eq_true h))]
      simp only [List.mem_cons, Prod.mk.injEq] at h
      rcases h with ⟨rfl, rfl⟩ | h
      · exact absurd rfl e
      · exact findD_mem r t j (fun x hx y hy => hinj x (List.mem_cons_of_mem _ hx) y (List.mem_cons_of_mem _ hy)) h

theorem looksOk_sound {A : List Nat} {ds : List (Nat × Nat)} : ∀ (its : List VItem) (i : Nat), looksOk A ds i its = true → ∀ (k : Nat) (it : VItem), its[k]? = some it → ∀ t ∈ it.looks, ∀ j, findD t ds = some j →
    j = i + k ∨ (A.getD (i + k) 0).testBit j = true ∨ (A.getD j 0).testBit (i + k) = true
  | [], _, _, k, it, h, _, _, _, _ => by simp at h
  | it :: its, i, h, k, it', hk, t, ht, j, hj => by
    simp only [looksOk, Bool.and_eq_true, List.all_eq_true] at h
    cases k with
    | zero =>
      simp only [List.getElem?_cons_zero, Option.some.injEq] at hk
      subst hk
      have := h.1 t ht
      rw [hj] at this
      simp only [Bool.or_eq_true] at this
      rcases this with (h | h) | h
      · exact .inl (Nat.eq_of_beq_eq_true h)
      · exact .inr (.inl h)
      · exact .inr (.inr h)
    | succ k =>
      have := looksOk_sound its (i + 1) h.2 k it' (by simpa using hk) t ht j hj
      rw [show i + 1 + k = i + (k + 1) by omega] at this
      exact this

theorem drawFacts {ops : List Oper} (h : drawOk ops its = true) : DrawFacts ops its := by
  simp only [drawOk, Bool.and_eq_true] at h
  obtain ⟨⟨⟨h1, h2⟩, h3⟩, h4⟩ := h
  have back : ∀ (i : Nat) (o : Oper), ops[i]? = some o → ∀ e ∈ o.after.toList, Region.binds .any e = true → e.on < i := fun i o ho e he hb => by
    have := backOk_sound ops 0 h2 i o ho e he hb
    omega
  have step : ∀ (i : Nat) (o : Oper), ops[i]? = some o → ∀ j, Anc ops j i → ∃ e ∈ o.after.toList, Region.binds .any e = true ∧ (e.on = j ∨ Anc ops j e.on) := fun i o ho j hj => by
    have := (masksFrom_get ops [] 0).2 i o ho (fun e he hb => by have := back i o ho e he hb; simpa using this) j (by simpa [Anc, masks] using hj)
    exact this
  have lt : ∀ (i : Nat), ∀ (o : Oper), ops[i]? = some o → ∀ j, Anc ops j i → j < i := by
    intro i
    induction i using Nat.strongRecOn with
    | _ i ih =>
      intro o ho j hj
      obtain ⟨e, he, hb, h⟩ := step i o ho j hj
      have hlt := back i o ho e he hb
      rcases h with h | h
      · omega
      · have hi : i < ops.length := (List.getElem?_eq_some_iff.1 ho).1
        have := ih e.on hlt _ (List.getElem?_eq_getElem (by omega)) j h
        omega
  have inj := distOk_inj _ h3
  refine ⟨Nat.eq_of_beq_eq_true h1, back, fun i o ho j hj => ⟨lt i o ho j hj, step i o ho j hj⟩, fun i i' t hne g1 g2 => ?_, fun i j it t hit hne ht hj => ?_⟩
  · have m1 := (dsOf_mem its 0 t i).2 ⟨Nat.zero_le _, by simpa using g1⟩
    have m2 := (dsOf_mem its 0 t i').2 ⟨Nat.zero_le _, by simpa using g2⟩
    have := inj _ m1 _ m2 rfl
    simp only [Prod.mk.injEq, true_and] at this
    exact hne this
  · have m1 := (dsOf_mem its 0 t j).2 ⟨Nat.zero_le _, by simpa using hj⟩
    have := looksOk_sound its 0 h4 i it hit t ht j (findD_mem _ t j inj m1)
    simp only [Nat.zero_add] at this
    rcases this with h | h | h
    · exact absurd h hne
    · exact .inl h
    · exact .inr h

/-- How many have not come up. -/
def unl (n : Nat) (L : Array Bool) : List Nat := (List.range n).filter fun i => !L.getD i true

theorem getD_true_false {L : Array Bool} {i : Nat} (h : i < L.size) : L.getD i true = L.getD i false := by simp [h]

theorem unl_set {n : Nat} {L : Array Bool} {i : Nat} (hi : i < n) (hL : L.size = n) (h : L.getD i true = false) : (unl n (L.setIfInBounds i true)).length < (unl n L).length := by
  have e : unl n (L.setIfInBounds i true) = (unl n L).filter fun j => j != i := by
    unfold unl
    rw [List.filter_filter]
    apply List.filter_congr
    intro j hj
    by_cases hji : j = i
    · subst hji
      have : (L.setIfInBounds j true).getD j true = true := by simp [hL, hi]
      rw [this]; simp
    · rw [getD_set_ne true (Ne.symm hji)]
      simp [hji]
  rw [e, List.length_filter_lt_length_iff_exists]
  exact ⟨i, List.mem_filter.2 ⟨List.mem_range.2 hi, by rw [h]; rfl⟩, by simp⟩

theorem actual_citem {P : Program} {ops : Array Oper} : ∀ {os : List Oper} {its : List VItem}, citems P m ops os = some its → ∀ (i : Nat) (o : Oper), os[i]? = some o → ∃ it, its[i]? = some it ∧ citem P m ops o = some it
  | [], _, _, i, o, h => by simp at h
  | o' :: os, its, hc, i, o, h => by
    simp only [citems, Option.bind_eq_bind, Option.bind_eq_some_iff, Option.pure_def, Option.some.injEq] at hc
    obtain ⟨it, hit, rest, hrest, rfl⟩ := hc
    cases i with
    | zero => simp only [List.getElem?_cons_zero, Option.some.injEq] at h; subst h; exact ⟨it, rfl, hit⟩
    | succ i => exact actual_citem hrest i o (by simpa using h)

/-! ### The order -/
def effV : VAct → Bool
  | .op (.alloc _ _) | .op (.box _ _) | .op (.store _ _ _) | .op (.app _ _ _ _ _) | .op (.appS _ _ _) | .op .mkM | .op (.mset _ _ _ _) => true
  | .op _ => false
  | _ => true

def bitOf (A : List Nat) (i j : Nat) : Bool := (A.getD i 0).testBit j

/-- The items that may turn the store: each ordered with every other that has an effect. -/
def loudsOf (A : List Nat) (its : List VItem) : List Nat :=
  let es := (List.range its.length).filter fun i => match its[i]? with | some it => effV it.act | none => false
  es.filter fun k => es.all fun c => Nat.beq c k || bitOf A c k || bitOf A k c

def ordOf (A : List Nat) (n : Nat) (ls : List Nat) : List Nat :=
  let key := fun i => (ls.filter fun k => bitOf A i k).length
  (List.range (ls.length + 1)).flatMap fun c => ((List.range n).filter fun i => Nat.beq (key i) c && !ls.contains i) ++ ((List.range n).filter fun i => Nat.beq (key i) c && ls.contains i)

/-- May item i be looked at again where all that stands ahead has come up? -/
def againOk (A : List Nat) (ds : List (Nat × Nat)) (i : Nat) (it : VItem) : Bool :=
  it.looks.all fun t => match findD t ds with | some j => bitOf A i j | none => true

/-- The items in the order ord; 'pre': what stands ahead. -/
def vds (A : List Nat) (ds : List (Nat × Nat)) (its : List VItem) (ls : List Nat) : List Nat → List Nat → Option (List VD)
  | _, [] => some []
  | pre, i :: rest => do
    let it ← its[i]?
    if (pre.contains i) then none else
    if !(List.range its.length).all (fun j => !bitOf A i j || pre.contains j) then none else
    if ls.contains i then
      let ag := pre.filter fun j => !bitOf A i j
      if !rest.all (fun j => bitOf A j i) then none else
      if !ag.all (fun j => match its[j]? with | some jt => againOk A ds j jt | none => false) then none else
      pure (⟨it, some (ag.filterMap fun j => its[j]?)⟩ :: (← vds A ds its ls (pre ++ [i]) rest))
    else pure (⟨it, none⟩ :: (← vds A ds its ls (pre ++ [i]) rest))

def cdraw (ops : List Oper) (its : List VItem) : Option (List VD) :=
  if drawOk ops its then
    let A := masks ops
    let ls := loudsOf A its
    let ord := ordOf A its.length ls
    if (List.range its.length).all (fun i => ord.contains i) then vds A (dsOf 0 its) its ls [] ord else none
  else none

/-- The frame that an item sees: those ahead of it have come up. -/
def gF (fr : Fr) (its : List VItem) (A : List Nat) (val : Nat → V) (i : Nat) : Fr := frV fr its val (bitOf A i)

/-- What is known of the items that stand ahead of the next loud one. -/
structure Known (X : Ctx) (fr : Fr) (its : List VItem) (ops : List Oper) (L : Array Bool) (pre : List Nat) (val : Nat → V) (σ : St) : Prop where
  closed : ∀ i, i ∈ pre → ∀ j, Anc ops j i → j ∈ pre
  shown : ∀ i, i ∈ pre → L.getD i false = false → ∀ it, its[i]? = some it → ∃ v, Shown X σ (gF fr its (masks ops) val i) it v ∧ ∀ d, it.dst = some d → val i = v

theorem contains_iff {l : List Nat} {i : Nat} : l.contains i = true ↔ i ∈ l := List.contains_iff_mem

theorem shown_congr {fr fr' : Fr} {it : VItem} {v : V} (h : ∀ t ∈ it.looks, fr t = fr' t) (hs : Shown X σ fr it v) : Shown X σ fr' it v := by
  obtain ⟨h1, h2⟩ := item_congr (X := X) (σ := σ) (K := isRet v σ) h
  unfold Shown at hs ⊢
  rw [← h1, ← h2]; exact hs

/-- Two frames agree on what an item looks at. -/
theorem sees {ops : List Oper} (hF : DrawFacts ops its) {val : Nat → V} {S : Nat → Bool} {i : Nat} {it : VItem} (hit : its[i]? = some it) (h1 : ∀ j, Anc ops j i → S j = true) (h2 : S i = false) (h3 : ∀ j, Anc ops i j → S j = false) :
    ∀ t ∈ it.looks, frV fr its val S t = gF fr its (masks ops) val i t := by
  intro t ht
  have hi : i < its.length := (List.getElem?_eq_some_iff.1 hit).1
  have lt : ∀ a b, Anc ops a b → b < its.length → a < b := fun a b hab hb => by
    have hbo : b < ops.length := by rw [hF.len]; exact hb
    exact (hF.anc b _ (List.getElem?_eq_getElem hbo) a hab).1
  by_cases hex : ∃ j, dstAt its j = some t
  · obtain ⟨j, hjt⟩ := hex
    have hd := fun i i' h1 h2 => hF.dist i i' t h1 h2
    have hj := dstAt_lt hjt
    unfold gF
    rw [frV_some hd hjt, frV_some hd hjt]
    by_cases hji : j = i
    · subst hji
      have hb : bitOf (masks ops) j j = false := by
        cases hb : bitOf (masks ops) j j with
        | false => rfl
        | true => exact absurd (lt j j hb hj) (by omega)
      rw [h2, hb]
    · rcases hF.look i j it t hit hji ht hjt with h | h
      · rw [h1 j h, show bitOf (masks ops) i j = true from h]
      · have hb : bitOf (masks ops) i j = false := by
          cases hb : bitOf (masks ops) i j with
          | false => rfl
          | true =>
            have g1 := lt j i hb hi
            have g2 := lt i j h hj
            omega
        rw [h3 j h, hb]
  · have hno : ∀ j, dstAt its j ≠ some t := fun j e => hex ⟨j, e⟩
    unfold gF
    rw [frV_none hno, frV_none hno]

theorem gF_setN {ops : List Oper} {val : Nat → V} {i j : Nat} {v : V} (h : ¬ Anc ops i j) : gF fr its (masks ops) (setN val i v) j = gF fr its (masks ops) val j :=
  frV_ext fun k d _ => ⟨rfl, fun hk => by
    have : k ≠ i := fun e => by subst e; exact h hk
    simp [setN, this]⟩

theorem vds_step {A : List Nat} {ds : List (Nat × Nat)} {ls pre rest : List Nat} {i : Nat} {vd : List VD} (h : vds A ds its ls pre (i :: rest) = some vd) :
    ∃ it vd', its[i]? = some it ∧ i ∉ pre ∧ (∀ j, j < its.length → bitOf A i j = true → j ∈ pre) ∧ vds A ds its ls (pre ++ [i]) rest = some vd' ∧
      ((ls.contains i = false ∧ vd = ⟨it, none⟩ :: vd') ∨ (ls.contains i = true ∧ (∀ j ∈ rest, bitOf A j i = true) ∧ ∃ ag, vd = ⟨it, some ag⟩ :: vd' ∧
        ∀ j ∈ pre, bitOf A i j = false → ∃ jt, its[j]? = some jt ∧ jt ∈ ag ∧ againOk A ds j jt = true)) := by
  simp only [vds, Option.bind_eq_bind, Option.bind_eq_some_iff] at h
  obtain ⟨it, hit, h⟩ := h
  split at h
  · cases h
  · rename_i h1
    split at h
    · cases h
    · rename_i h2
      have a1 : i ∉ pre := fun hm => h1 (contains_iff.2 hm)
      have a2 : ∀ j, j < its.length → bitOf A i j = true → j ∈ pre := by
        intro j hj hb
        simp only [Bool.not_eq_true', Bool.not_eq_false, List.all_eq_true, List.mem_range, Bool.or_eq_true] at h2
        rcases h2 j hj with h | h
        · rw [h] at hb; cases hb
        · exact contains_iff.1 h
      split at h
      · rename_i h3
        split at h
        · cases h
        · rename_i h4
          split at h
          · cases h
          · rename_i h5
            simp only [Option.bind_eq_some_iff, Option.pure_def, Option.some.injEq] at h
            obtain ⟨vd', hvd, rfl⟩ := h
            refine ⟨it, vd', hit, a1, a2, hvd, .inr ⟨h3, ?_, _, rfl, ?_⟩⟩
            · simpa using h4
            · intro j hj hb
              have h5' : ∀ j ∈ pre.filter (fun j => !bitOf A i j), (match its[j]? with | some jt => againOk A ds j jt | none => false) = true := by
                simpa only [Bool.not_eq_true', Bool.not_eq_false, List.all_eq_true] using h5
              have hm : j ∈ pre.filter (fun j => !bitOf A i j) := List.mem_filter.2 ⟨hj, by rw [hb]; rfl⟩
              have := h5' j hm
              cases hjt : its[j]? with
              | none => rw [hjt] at this; cases this
              | some jt =>
                rw [hjt] at this
                exact ⟨jt, rfl, List.mem_filterMap.2 ⟨j, hm, hjt⟩, this⟩
      · rename_i h3
        simp only [Option.bind_eq_some_iff, Option.pure_def, Option.some.injEq] at h
        obtain ⟨vd', hvd, rfl⟩ := h
        exact ⟨it, vd', hit, a1, a2, hvd, .inl ⟨by simpa using h3, rfl⟩⟩

theorem contains_snoc (pre : List Nat) (i : Nat) : (fun j => (pre ++ [i]).contains j) = addS (fun j => pre.contains j) i := by
  funext j
  simp only [addS]
  rw [Bool.eq_iff_iff]
  simp only [contains_iff, List.mem_append, List.mem_singleton, Bool.or_eq_true, beq_iff_eq]
  exact Or.comm

theorem vds_apart {A : List Nat} {ds : List (Nat × Nat)} {ls : List Nat} : ∀ (rest pre : List Nat) (vd : List VD), vds A ds its ls pre rest = some vd → ∀ j ∈ rest, j ∉ pre ∧ j < its.length
  | [], _, _, _, j, hj => by cases hj
  | i :: rest, pre, vd, h, j, hj => by
    obtain ⟨it, vd', hit, a1, _, hv', _⟩ := vds_step h
    rcases List.mem_cons.1 hj with rfl | hj
    · exact ⟨a1, (List.getElem?_eq_some_iff.1 hit).1⟩
    · obtain ⟨h1, h2⟩ := vds_apart rest _ vd' hv' j hj
      exact ⟨fun hm => h1 (List.mem_append_left _ hm), h2⟩

/-- What is quiet and stands at the head comes to be known. -/
theorem normal {K : VEx → Fr → St → Prop} {ops : List Oper} {ds : List (Nat × Nat)} {ls : List Nat} {L : Array Bool} (hF : DrawFacts ops its) : ∀ (rest pre : List Nat) (vd : List VD) (val : Nat → V),
    vds (masks ops) ds its ls pre rest = some vd → Known X fr its ops L pre val σ → Dit X K vd (frV fr its val fun j => pre.contains j) σ →
    ∃ pre' rest' vd' val', vds (masks ops) ds its ls pre' rest' = some vd' ∧ Known X fr its ops L pre' val' σ ∧ Dit X K vd' (frV fr its val' fun j => pre'.contains j) σ ∧
      (rest' = [] ∨ ∃ k r, rest' = k :: r ∧ ls.contains k = true) ∧ (∀ i, i ∈ rest' → i ∈ rest) ∧ (∀ i, i ∈ pre ∨ i ∈ rest → i ∈ pre' ∨ i ∈ rest') ∧ (∀ i, i ∈ pre → val' i = val i ∧ i ∈ pre')
  | [], pre, vd, val, hv, hk, hd => ⟨pre, [], vd, val, hv, hk, hd, .inl rfl, fun _ h => h, fun _ h => h, fun _ h => ⟨rfl, h⟩⟩
  | i :: rest, pre, vd, val, hv, hk, hd => by
    obtain ⟨it, vd', hit, a1, a2, hv', h⟩ := vds_step hv
    have hi : i < its.length := (List.getElem?_eq_some_iff.1 hit).1
    rcases h with ⟨_, rfl⟩ | ⟨hl, _⟩
    · have lt : ∀ a b, Anc ops a b → b < its.length → a < b := fun a b hab hb => by
        have hbo : b < ops.length := by rw [hF.len]; exact hb
        exact (hF.anc b _ (List.getElem?_eq_getElem hbo) a hab).1
      have hP : pre.contains i = false := by
        cases h : pre.contains i with
        | false => rfl
        | true => exact absurd (contains_iff.1 h) a1
      have hanc : ∀ j, Anc ops j i → j ∈ pre := fun j hj => a2 j (by have := lt j i hj hi; omega) hj
      have hsee := fun (val : Nat → V) => sees (fr := fr) hF (val := val) (S := fun j => pre.contains j) hit (fun j hj => contains_iff.2 (hanc j hj)) hP (fun j hj => by
        cases h : pre.contains j with
        | false => rfl
        | true => exact absurd (hk.closed j (contains_iff.1 h) i hj) a1)
      have hself : ¬ Anc ops i i := fun h => by have := lt i i h hi; omega
      have step : ∀ v, Shown X σ (frV fr its val fun j => pre.contains j) it v → Dit X K vd' (putO (frV fr its val fun j => pre.contains j) it.dst v) σ →
          ∃ pre' rest' vd' val', vds (masks ops) ds its ls pre' rest' = some vd' ∧ Known X fr its ops L pre' val' σ ∧ Dit X K vd' (frV fr its val' fun j => pre'.contains j) σ ∧
            (rest' = [] ∨ ∃ k r, rest' = k :: r ∧ ls.contains k = true) ∧ (∀ a, a ∈ rest' → a ∈ i :: rest) ∧ (∀ a, a ∈ pre ∨ a ∈ i :: rest → a ∈ pre' ∨ a ∈ rest') ∧ (∀ a, a ∈ pre → val' a = val a ∧ a ∈ pre') := fun v hs hr => by
        rw [← frV_put (fun t i i' h1 h2 => hF.dist i i' t h1 h2) hit hP, ← contains_snoc] at hr
        have hk' : Known X fr its ops L (pre ++ [i]) (setN val i v) σ := by
          refine ⟨fun a ha j hj => ?_, fun a ha hL at' hat => ?_⟩
          · rcases List.mem_append.1 ha with hb | hb
            · exact List.mem_append_left _ (hk.closed a hb j hj)
            · rw [List.mem_singleton.1 hb] at hj
              exact List.mem_append_left _ (hanc j hj)
          · rcases List.mem_append.1 ha with hb | hb
            · obtain ⟨v', g1, g2⟩ := hk.shown a hb hL at' hat
              have hne : a ≠ i := fun e => a1 (e ▸ hb)
              rw [gF_setN (fun h => a1 (hk.closed a hb i h))]
              exact ⟨v', g1, fun d hd => by simp only [setN]; rw [if_neg hne]; exact g2 d hd⟩
            · have e := List.mem_singleton.1 hb
              rw [e] at hat ⊢
              rw [hit] at hat
              cases hat
              rw [gF_setN hself]
              exact ⟨v, shown_congr (hsee val) hs, fun _ _ => by simp [setN]⟩
        obtain ⟨pre', rest', vd'', val', r1, r2, r3, r4, r5, r6, r7⟩ := normal hF rest (pre ++ [i]) vd' (setN val i v) hv' hk' hr
        refine ⟨pre', rest', vd'', val', r1, r2, r3, r4, fun a ha => List.mem_cons_of_mem _ (r5 a ha), fun a ha => r6 a ?_, fun a ha => ?_⟩
        · rcases ha with ha | ha
          · exact .inl (List.mem_append_left _ ha)
          · rcases List.mem_cons.1 ha with h | h
            · exact .inl (by rw [h]; simp)
            · exact .inr h
        · obtain ⟨s1, s2⟩ := r7 a (List.mem_append_left _ ha)
          refine ⟨?_, s2⟩
          rw [s1]
          simp only [setN]
          rw [if_neg (fun e : a = i => a1 (e ▸ ha))]
      simp only [Dit] at hd
      cases hw : wantedV it.guard (frV fr its val fun j => pre.contains j) with
      | true =>
        rw [hw] at hd
        obtain ⟨v, hv, hr⟩ := actD_det (H := fun v => Dit X K vd' (putO (frV fr its val fun j => pre.contains j) it.dst v) σ) hd
        exact step v (.inl ⟨hw, hv⟩) hr
      | false =>
        rw [hw] at hd
        exact step .und (.inr ⟨hw, rfl⟩) hd
    · exact ⟨pre, i :: rest, vd, val, hv, hk, hd, .inr ⟨i, rest, rfl, hl⟩, fun _ h => h, fun _ h => h, fun _ h => ⟨rfl, h⟩⟩

/-- The looks at items behind a loud one, as facts. -/
theorem again_all {next : Fr → St → Prop} : ∀ (ag : List VItem) (fr : Fr), againK X next ag fr σ → next fr σ ∧ ∀ it ∈ ag, wantedV it.guard fr = true → ∃ v, actV X it.act fr σ (isRet v σ) ∧ ∀ d, it.dst = some d → v = fr d
  | [], fr, h => ⟨h, fun it hit => by cases hit⟩
  | it :: r, fr, h => by
    obtain ⟨h1, h2⟩ := h
    obtain ⟨h3, h4⟩ := again_all r fr h2
    refine ⟨h3, fun jt hjt hw => ?_⟩
    rcases List.mem_cons.1 hjt with rfl | hjt
    · rw [hw] at h1
      exact actD_det (H := fun v => ∀ d, jt.dst = some d → v = fr d) h1
    · exact h4 jt hjt hw

theorem againOk_anc {ops : List Oper} {i : Nat} {it : VItem} (hd : drawOk ops its = true) (h : againOk (masks ops) (dsOf 0 its) i it = true) : ∀ t ∈ it.looks, ∀ j, dstAt its j = some t → Anc ops j i := by
  intro t ht j hj
  simp only [drawOk, Bool.and_eq_true] at hd
  have inj := distOk_inj _ hd.1.2
  have m1 := (dsOf_mem its 0 t j).2 ⟨Nat.zero_le _, by simpa using hj⟩
  have hf := findD_mem _ t j inj m1
  simp only [againOk, List.all_eq_true] at h
  have := h t ht
  rw [hf] at this
  exact this

theorem draw_any {ops : Array Oper} {K : VEx → Fr → St → Prop} {ls : List Nat} (hdr : drawOk ops.toList its = true) (hc : citems X.P m ops ops.toList = some its)
    {μ₀ : Mem} {w₀ : World} {ds : List Deferred} {Q : Exit → Act → World → Prop} (hQ : ∀ e a' w', KR m μ₀ w₀ ds K e a' w' → Q e a' w') :
    ∀ (fuel : Nat) (L : Array Bool) (a : Act) (μ : Mem) (w : World) (σ : St) (pre rest : List Nat) (vd : List VD) (val : Nat → V), (unl its.length L).length ≤ fuel → L.size = its.length →
      (∀ i, i < its.length → L.getD i false = true → ∀ j, Anc ops.toList j i → L.getD j false = true) →
      vds (masks ops.toList) (dsOf 0 its) its ls pre rest = some vd → Known X fr its ops.toList L pre val σ → Dit X K vd (frV fr its val fun j => pre.contains j) σ →
      (rest = [] ∨ ∃ k r, rest = k :: r ∧ ls.contains k = true) → (∀ i, i < its.length → i ∈ pre ∨ i ∈ rest) → (∀ i, i ∈ rest → L.getD i false = false) →
      μ.G = X.G → Rel μ σ w → Ev μ₀ w₀ μ w → FrRel m μ w (frV fr its val fun j => L.getD j false) a → a.defers = ds → wpAny X.P .any ops Q fuel L a w := by
  have hF := drawFacts hdr
  have hlen : ops.size = its.length := by have := hF.len; simpa using this
  have lt : ∀ a b, Anc ops.toList a b → b < its.length → a < b := fun a b hab hb => by
    have hbo : b < ops.toList.length := by rw [hF.len]; exact hb
    exact (hF.anc b _ (List.getElem?_eq_getElem hbo) a hab).1
  -- all have come up
  have final : ∀ (L : Array Bool) (a : Act) (μ : Mem) (w : World) (σ : St) (pre rest : List Nat) (vd : List VD) (val : Nat → V), L.size = its.length → Region.ready .any ops L = [] →
      vds (masks ops.toList) (dsOf 0 its) its ls pre rest = some vd → Dit X K vd (frV fr its val fun j => pre.contains j) σ → (∀ i, i < its.length → i ∈ pre ∨ i ∈ rest) → (∀ i, i ∈ rest → L.getD i false = false) →
      Rel μ σ w → Ev μ₀ w₀ μ w → FrRel m μ w (frV fr its val fun j => L.getD j false) a → a.defers = ds → Q .normal a w := by
    intro L a μ w σ pre rest vd val hL hr hv hd hall hrest hrel hev hfr hds
    have all : ∀ k, k < its.length → L.getD k false = true := by
      intro k
      induction k using Nat.strongRecOn with
      | _ k ih =>
        intro hk
        cases hLk : L.getD k false with
        | true => rfl
        | false =>
          exfalso
          have ho : ops[k]? = some ops[k] := Array.getElem?_eq_getElem (by omega)
          have : k ∈ Region.ready .any ops L := mem_ready.2 ⟨by rw [getD_true_false (by omega)]; exact hLk, ops[k], ho, fun e he hb => by
            have := hF.back k ops[k] (by simp) e (by simpa using he) hb
            exact ih e.on this (by omega)⟩
          rw [hr] at this
          cases this
    have hnil : rest = [] := by
      cases rest with
      | nil => rfl
      | cons k r =>
        have h1 := hrest k List.mem_cons_self
        have h2 := all k (vds_apart _ _ _ hv k List.mem_cons_self).2
        rw [h1] at h2; cases h2
    subst hnil
    simp only [vds, Option.some.injEq] at hv
    subst hv
    have hfe : (frV fr its val fun j => L.getD j false) = frV fr its val fun j => pre.contains j := frV_ext fun j d hj => by
      have hjl := dstAt_lt hj
      refine ⟨?_, fun _ => rfl⟩
      rw [all j hjl]
      rcases hall j hjl with h | h
      · exact (contains_iff.2 h).symm
      · cases h
    rw [hfe] at hfr
    exact hQ _ _ _ ⟨.norm, _, σ, μ, hd, hev, hrel, hfr, hds, rfl⟩
  intro fuel
  induction fuel with
  | zero =>
    intro L a μ w σ pre rest vd val hf hL _ hv _ hd _ hall hrest _ hrel hev hfr hds
    have hr : Region.ready .any ops L = [] := by
      cases hr : Region.ready .any ops L with
      | nil => rfl
      | cons i rest =>
        exfalso
        have hi : i ∈ Region.ready .any ops L := by rw [hr]; exact List.mem_cons_self
        obtain ⟨h1, o, ho, _⟩ := mem_ready.1 hi
        have hlt : i < its.length := by have := (Array.getElem?_eq_some_iff.1 ho).1; omega
        have hm : i ∈ unl its.length L := List.mem_filter.2 ⟨List.mem_range.2 hlt, by rw [h1]; rfl⟩
        have := List.length_pos_of_mem hm
        omega
    exact ⟨hr, final L a μ w σ pre rest vd val hL hr hv hd hall hrest hrel hev hfr hds⟩
  | succ fuel ih =>
    intro L a μ w σ pre rest vd val hf hL hcl hv hk hd hready hall hrest hG hrel hev hfr hds
    refine ⟨fun hr => final L a μ w σ pre rest vd val hL hr hv hd hall hrest hrel hev hfr hds, fun i hi => ?_⟩
    obtain ⟨h1, o, ho, hpre⟩ := mem_ready.1 hi
    have hlt : i < its.length := by have := (Array.getElem?_eq_some_iff.1 ho).1; omega
    have ho' : ops.toList[i]? = some o := by simpa using ho
    obtain ⟨it, hit, hci⟩ := actual_citem hc i o ho'
    have hLi : L.getD i false = false := by rw [← getD_true_false (by omega)]; exact h1
    -- what comes before it has come up
    have hanc : ∀ j, Anc ops.toList j i → L.getD j false = true := by
      intro j hj
      obtain ⟨_, e, he, hb, h⟩ := hF.anc i o ho' j hj
      have hLe := hpre e (by simpa using he) hb
      rcases h with h | h
      · rw [← h]; exact hLe
      · have hbk := hF.back i o ho' e he hb
        exact hcl e.on (by omega) hLe j h
    have hdesc : ∀ j, Anc ops.toList i j → L.getD j false = false := fun j hj => by
      cases h : L.getD j false with
      | false => rfl
      | true =>
        rcases Nat.lt_or_ge j its.length with hjl | hjl
        · have := hcl j hjl h i hj
          rw [hLi] at this; cases this
        · rw [Array.getD_eq_getD_getElem?, Array.getElem?_eq_none (by omega)] at h; cases h
    have hseeL := fun (val : Nat → V) => sees (fr := fr) hF (val := val) (S := fun j => L.getD j false) hit hanc hLi hdesc
    simp only [citem, Option.bind_eq_bind, Option.bind_eq_some_iff, Option.pure_def, Option.some.injEq] at hci
    obtain ⟨g, hg, x, hx, rfl⟩ := hci
    have hsz : ∀ j, ((L.setIfInBounds i true).getD j false) = addS (fun j => L.getD j false) i j := fun j => by
      simp only [addS]
      by_cases e : j = i
      · subst e
        have : (L.setIfInBounds j true).getD j false = true := by simp [hL, hlt]
        rw [this]; simp
      · rw [getD_set_ne false (Ne.symm e)]
        simp [e]
    have hcl' : ∀ k, k < its.length → (L.setIfInBounds i true).getD k false = true → ∀ j, Anc ops.toList j k → (L.setIfInBounds i true).getD j false = true := fun k hk' hLk j hj => by
      rw [hsz] at hLk ⊢
      simp only [addS, Bool.or_eq_true, beq_iff_eq] at hLk ⊢
      rcases hLk with rfl | hLk
      · exact .inr (hanc j hj)
      · exact .inr (hcl k hk' hLk j hj)
    have hfuel : (unl its.length (L.setIfInBounds i true)).length ≤ fuel := by
      have := unl_set hlt hL h1
      omega
    have hLset : (fun j => (L.setIfInBounds i true).getD j false) = addS (fun j => L.getD j false) i := funext hsz
    have hdist := fun t i i' h1 h2 => hF.dist i i' t h1 h2
    unfold wpOp
    simp only [ho]
    rw [wanted_eq hfr hg]
    rcases hall i hlt with hin | hin
    · -- it is known what it shows
      obtain ⟨v, hs, hval⟩ := hk.shown i hin hLi _ hit
      have hsA := shown_congr (fun t ht => (hseeL val t ht).symm) hs
      have hnext : ∀ (u : Value) (w' : World) (μ' : Mem), Ev μ w μ' w' → Rel μ' σ w' → RV μ' w' v u → wpAny X.P .any ops Q fuel (L.setIfInBounds i true) (a.put o.dst u) w' := by
        intro u w' μ' hev' hrel' hu
        refine ih _ _ μ' w' σ pre rest vd val hfuel (by simp [hL]) hcl' hv ⟨hk.closed, fun j hj hLj => hk.shown j hj ?_⟩ hd hready hall (fun j hj => ?_) (hev'.G.trans hG) hrel' (hev.trans hev') ?_ (by rw [put_defers]; exact hds)
        · rw [hsz] at hLj
          simp only [addS, Bool.or_eq_false_iff] at hLj
          exact hLj.2
        · rw [hsz]
          have hne : j ≠ i := fun e => (vds_apart _ _ _ hv j hj).1 (e ▸ hin)
          simp [addS, hne, hrest j hj]
        · rw [hLset]
          have e1 : frV fr its val (addS (fun j => L.getD j false) i) = frV fr its (setN val i v) (addS (fun j => L.getD j false) i) := frV_ext fun j d hj => ⟨rfl, fun _ => by
            by_cases e : j = i
            · subst e
              have : dstAt its j = o.dst := by simp [dstAt, hit]
              rw [this] at hj
              simp [setN, hval d hj]
            · simp [setN, e]⟩
          rw [e1, frV_put hdist hit hLi]
          exact (hfr.mono hev').put o.dst hu
      rcases hsA with ⟨hw, hact⟩ | ⟨hw, hund⟩
      · rw [if_pos hw]
        refine .inl (act_sound hx hG hrel hfr hact ?_ ?_)
        · rintro v' u σ' w' μ' ⟨hv', rfl⟩ hev' hrel' hu
          cases hv'
          exact hnext u w' μ' hev' hrel' hu
        · rintro v' u σ' w' μ' ⟨hv', _⟩
          cases hv'
      · rw [if_neg (by simpa using hw)]
        exact hnext undef w μ (Ev.refl μ w) hrel (by rw [hund]; exact RV.mkTup (cs := []) (us := []) ⟨rfl, fun i hi => by simp at hi⟩)
    · -- it is the loud one
      rcases hready with h | ⟨k, r, hkr, hkl⟩
      · rw [h] at hin; cases hin
      subst hkr
      obtain ⟨it', vd', hit', a1, a2, hv', h⟩ := vds_step hv
      rcases h with ⟨hq, _⟩ | ⟨_, hdes, ag, hvd, hag⟩
      · rw [hkl] at hq; cases hq
      have hik : i = k := by
        rcases List.mem_cons.1 hin with h | h
        · exact h
        · have h1 := hanc k (hdes i h)
          rw [hrest k List.mem_cons_self] at h1; cases h1
      subst hik
      rw [hit] at hit'
      cases hit'
      subst hvd
      have hP : pre.contains i = false := by
        cases h : pre.contains i with
        | false => rfl
        | true => exact absurd (contains_iff.1 h) a1
      have hancP : ∀ j, Anc ops.toList j i → j ∈ pre := fun j hj => a2 j (by have := lt j i hj hlt; omega) hj
      have hself : ¬ Anc ops.toList i i := fun h => by have := lt i i h hlt; omega
      have hnd : ∀ j ∈ pre, ¬ Anc ops.toList i j := fun j hj h => a1 (hk.closed j hj i h)
      have hseeP := sees (fr := fr) hF (val := val) (S := fun j => pre.contains j) hit (fun j hj => contains_iff.2 (hancP j hj)) hP (fun j hj => by
        cases h : pre.contains j with
        | false => rfl
        | true => exact absurd hj (hnd j (contains_iff.1 h)))
      have hagree : ∀ t ∈ (⟨o.dst, g, x⟩ : VItem).looks, (frV fr its val fun j => pre.contains j) t = (frV fr its val fun j => L.getD j false) t := fun t ht => (hseeP t ht).trans (hseeL val t ht).symm
      have hLpre : ∀ j, j < its.length → L.getD j false = true → j ∈ pre := fun j hj hLj => by
        rcases hall j hj with h | h
        · exact h
        · rw [hrest j h] at hLj; cases hLj
      have go : ∀ v u σ' w' μ', Ev μ w μ' w' → Rel μ' σ' w' → RV μ' w' v u → Dit X K vd' (putO (frV fr its val fun j => pre.contains j) o.dst v) σ' →
          (∀ b, b ∈ pre → L.getD b false = false → ∀ bt, its[b]? = some bt → ∃ v', Shown X σ' (gF fr its (masks ops.toList) (setN val i v) b) bt v' ∧ ∀ d, bt.dst = some d → val b = v') →
          wpAny X.P .any ops Q fuel (L.setIfInBounds i true) (a.put o.dst u) w' := by
        intro v u σ' w' μ' hev' hrel' hu hD hsh
        have hD' : Dit X K vd' (frV fr its (setN val i v) fun j => (pre ++ [i]).contains j) σ' := by
          rw [contains_snoc, frV_put hdist hit hP]
          exact hD
        have hk' : Known X fr its ops.toList (L.setIfInBounds i true) (pre ++ [i]) (setN val i v) σ' := by
          refine ⟨fun b hb j hj => ?_, fun b hb hLb bt hbt => ?_⟩
          · rcases List.mem_append.1 hb with hb' | hb'
            · exact List.mem_append_left _ (hk.closed b hb' j hj)
            · rw [List.mem_singleton.1 hb'] at hj
              exact List.mem_append_left _ (hancP j hj)
          · rw [hsz] at hLb
            simp only [addS, Bool.or_eq_false_iff, beq_eq_false_iff_ne] at hLb
            rcases List.mem_append.1 hb with hb' | hb'
            · obtain ⟨v', g1, g2⟩ := hsh b hb' hLb.2 bt hbt
              exact ⟨v', g1, fun d hd => by simp only [setN]; rw [if_neg hLb.1]; exact g2 d hd⟩
            · exact absurd (List.mem_singleton.1 hb') hLb.1
        obtain ⟨pre', rest', vd'', val', r1, r2, r3, r4, r5, r6, r7⟩ := normal hF r (pre ++ [i]) vd' (setN val i v) hv' hk' hD'
        refine ih _ _ μ' w' σ' pre' rest' vd'' val' hfuel (by simp [hL]) hcl' r1 r2 r3 r4 (fun j hj => r6 j ?_) (fun j hj => ?_) (hev'.G.trans hG) hrel' (hev.trans hev') ?_ (by rw [put_defers]; exact hds)
        · rcases hall j hj with h | h
          · exact .inl (List.mem_append_left _ h)
          · rcases List.mem_cons.1 h with h | h
            · exact .inl (by rw [h]; simp)
            · exact .inr h
        · have hjr := r5 j hj
          have hne : j ≠ i := fun e => (vds_apart _ _ _ hv' j hjr).1 (by rw [e]; simp)
          rw [hsz]
          simp [addS, hne, hrest j (List.mem_cons_of_mem _ hjr)]
        · rw [hLset]
          have e1 : frV fr its val' (addS (fun j => L.getD j false) i) = frV fr its (setN val i v) (addS (fun j => L.getD j false) i) := frV_ext fun j d hj => ⟨rfl, fun hs => by
            refine (r7 j ?_).1
            simp only [addS, Bool.or_eq_true, beq_iff_eq] at hs
            rcases hs with h | h
            · rw [h]; simp
            · exact List.mem_append_left _ (hLpre j (dstAt_lt hj) h)⟩
          rw [e1, frV_put hdist hit hLi]
          exact (hfr.mono hev').put o.dst hu
      have keep : ∀ v b, b ∈ pre → gF fr its (masks ops.toList) (setN val i v) b = gF fr its (masks ops.toList) val b := fun v b hb => gF_setN (hnd b hb)
      simp only [Dit] at hd
      obtain ⟨hcw, hca⟩ := item_congr (X := X) (σ := σ) (K := loudK X K ag (Dit X K vd') o.dst (frV fr its val fun j => pre.contains j)) hagree
      rw [hcw] at hd
      cases hw : wantedV g (frV fr its val fun j => L.getD j false) with
      | true =>
        have hw' : wantedV (⟨o.dst, g, x⟩ : VItem).guard (frV fr its val fun j => L.getD j false) = true := hw
        rw [hw'] at hd
        have hact : actV X x (frV fr its val fun j => pre.contains j) σ (loudK X K ag (Dit X K vd') o.dst (frV fr its val fun j => pre.contains j)) := hd
        rw [show actV X x (frV fr its val fun j => pre.contains j) σ _ = _ from hca] at hact
        rw [if_pos rfl]
        refine .inl (act_sound hx hG hrel hfr hact ?_ ?_)
        · intro v u σ' w' μ' hkk hev' hrel' hu
          obtain ⟨hD, hall'⟩ := again_all ag _ (hkk : againK X (Dit X K vd') ag (putO (frV fr its val fun j => pre.contains j) o.dst v) σ')
          refine go v u σ' w' μ' hev' hrel' hu hD fun b hb hLb bt hbt => ?_
          have hbi : bitOf (masks ops.toList) i b = false := by
            cases h : bitOf (masks ops.toList) i b with
            | false => rfl
            | true => rw [hanc b h] at hLb; cases hLb
          obtain ⟨bt', hbt', hm, hok⟩ := hag b hb hbi
          rw [hbt] at hbt'
          cases hbt'
          have hlook := againOk_anc hdr hok
          have hne : b ≠ i := fun e => a1 (e ▸ hb)
          have hput : (putO (frV fr its val fun j => pre.contains j) o.dst v) = frV fr its (setN val i v) (addS (fun j => pre.contains j) i) := (frV_put hdist hit hP).symm
          have hF' : ∀ t ∈ bt.looks, (putO (frV fr its val fun j => pre.contains j) o.dst v) t = gF fr its (masks ops.toList) (setN val i v) b t := by
            intro t ht
            rw [hput]
            unfold gF
            by_cases hex : ∃ j, dstAt its j = some t
            · obtain ⟨j, hjt⟩ := hex
              have hj := hlook t ht j hjt
              rw [frV_some (hdist t) hjt, frV_some (hdist t) hjt, show bitOf (masks ops.toList) b j = true from hj]
              have : addS (fun j => pre.contains j) i j = true := by
                simp only [addS, Bool.or_eq_true]
                exact .inr (contains_iff.2 (hk.closed b hb j hj))
              rw [this]
            · rw [frV_none (fun j e => hex ⟨j, e⟩), frV_none (fun j e => hex ⟨j, e⟩)]
          obtain ⟨gw, ga⟩ := item_congr (X := X) (σ := σ') (K := fun _ _ => True) hF'
          cases hwb : wantedV bt.guard (putO (frV fr its val fun j => pre.contains j) o.dst v) with
          | true =>
            obtain ⟨v', hv1, hv2⟩ := hall' bt hm hwb
            refine ⟨v', shown_congr hF' (.inl ⟨hwb, hv1⟩), fun d hd => ?_⟩
            rw [hv2 d hd, hput, frV_some (hdist d) (show dstAt its b = some d by simp [dstAt, hbt, hd])]
            have : addS (fun j => pre.contains j) i b = true := by
              simp only [addS, Bool.or_eq_true]
              exact .inr (contains_iff.2 hb)
            rw [this]
            simp [setN, hne]
          | false =>
            obtain ⟨v0, g1, g2⟩ := hk.shown b hb hLb bt hbt
            rw [gw, keep v b hb] at hwb
            rcases g1 with ⟨h, _⟩ | ⟨h, hu0⟩
            · rw [h] at hwb; cases hwb
            · exact ⟨v0, .inr ⟨by rw [keep v b hb]; exact h, hu0⟩, g2⟩
        · intro v u σ' w' μ' hp hev' hrel' hu
          exact hQ _ _ _ ⟨.pan v, _, σ', μ', (hp : panAll K v σ') _, hev.trans hev', hrel', hfr.mono hev', hds, u, hu, rfl⟩
      | false =>
        have hw' : wantedV (⟨o.dst, g, x⟩ : VItem).guard (frV fr its val fun j => L.getD j false) = false := hw
        rw [hw'] at hd
        rw [if_neg (by simp)]
        exact go .und undef σ w μ (Ev.refl μ w) hrel (RV.mkTup (cs := []) (us := []) ⟨rfl, fun i hi => by simp at hi⟩) hd fun b hb hLb bt hbt => by
          rw [keep .und b hb]
          exact hk.shown b hb hLb bt hbt

/-- A region that draws, whatever comes up. -/
theorem draw_wpAny {ops : Array Oper} {K : VEx → Fr → St → Prop} {vd : List VD} (hd : cdraw ops.toList its = some vd) (hc : citems X.P m ops ops.toList = some its) (h : Dit X K vd fr σ)
    (hG : μ.G = X.G) (hrel : Rel μ σ w) (hfr : FrRel m μ w fr a) {Q : Exit → Act → World → Prop} (hQ : ∀ e a' w', KR m μ w a.defers K e a' w' → Q e a' w') : wpAny X.P .any ops Q ops.size (Array.replicate ops.size false) a w.drew := by
  unfold cdraw at hd
  split at hd
  · rename_i hdr
    simp only at hd
    split at hd
    · rename_i hall
      have hF := drawFacts hdr
      have hlen : ops.size = its.length := by have := hF.len; simpa using this
      have hmem : ∀ i, i < its.length → i ∈ ordOf (masks ops.toList) its.length (loudsOf (masks ops.toList) its) := fun i hi => contains_iff.1 ((List.all_eq_true.1 hall) i (List.mem_range.2 hi))
      have hno : ∀ i, (Array.replicate ops.size false).getD i false = false := fun i => by
        simp [Array.getElem?_replicate]; split <;> rfl
      have e0 : (frV fr its (fun _ => .und) fun j => ([] : List Nat).contains j) = fr := by
        funext t
        unfold frV
        split <;> rfl
      have eL : ∀ val : Nat → V, (frV fr its val fun j => (Array.replicate ops.size false).getD j false) = fr := fun val => by
        funext t
        unfold frV
        split
        · simp only [hno]; rfl
        · rfl
      obtain ⟨pre', rest', vd', val', r1, r2, r3, r4, r5, r6, r7⟩ := normal (K := K) (L := Array.replicate ops.size false) (σ := σ) (X := X) (fr := fr) hF _ [] vd (fun _ => .und) hd ⟨(fun i hi => by cases hi), (fun i hi => by cases hi)⟩ (by rw [e0]; exact h)
      refine draw_any hdr hc hQ ops.size _ a μ w.drew σ pre' rest' vd' val' ?_ (by simp [hlen]) (fun i hi hL => ?_) r1 r2 r3 r4 (fun i hi => r6 i (.inr (hmem i hi))) (fun i _ => hno i) hG hrel.drew (Ev.drew μ w) ?_ rfl
      · have := List.length_filter_le (fun i => !(Array.replicate ops.size false).getD i true) (List.range its.length)
        rw [List.length_range] at this
        unfold unl
        omega
      · rw [hno] at hL; cases hL
      · rw [eL]; exact hfr.mono (Ev.drew μ w)
    · cases hd
  · cases hd

/-- A REGION THAT DRAWS. -/
theorem draw_sound {ops : Array Oper} {id : Nat} {K : VEx → Fr → St → Prop} {vd : List VD} (hm : X.P.follows .mixedOrders = true) (hd : cdraw ops.toList its = some vd) (hc : citems X.P m ops ops.toList = some its) (h : Dit X K vd fr σ)
    (hG : μ.G = X.G) (hrel : Rel μ σ w) (hfr : FrRel m μ w fr a) : (Code.region id ops true).wp X.P (KR m μ w a.defers K) a w :=
  wp_region_any hm (draw_wpAny hd hc h hG hrel hfr fun _ _ _ h => h)

end
end Go.Vs

namespace Go.Vs

def Tk.fits (k : Nat) : Tk → Bool
  | .own i => decide (i < k)
  | _ => true

def Tk.clean (k : Nat) : Tk → Tk
  | .own i => if i < k then .own i else .no
  | t => t

mutual
/-- Only these many objects, maps and rows are named. -/
def V.fits (n nm k : Nat) : V → Bool
  | .agg cs => fitsL n nm k cs
  | .tup cs => fitsL n nm k cs
  | .slc _ xs tk => fitsL n nm k xs && tk.fits k
  | .ref (some (o, _)) => decide (o < n)
  | .eptr cs => fitsL n nm k cs
  | .sptr cs _ => fitsL n nm k cs
  | .iface _ v => v.fits n nm k
  | .fn _ fs cs => fitsL n nm k fs && fitsL n nm k cs
  | .mp (some r) => decide (r < nm)
  | _ => true
def fitsL (n nm k : Nat) : List V → Bool
  | [] => true
  | v :: r => v.fits n nm k && fitsL n nm k r
end

mutual
/-- Marks of rows from k on are struck. -/
def V.clean (k : Nat) : V → V
  | .agg cs => .agg (cleanL k cs)
  | .tup cs => .tup (cleanL k cs)
  | .slc nn xs tk => .slc nn (cleanL k xs) (tk.clean k)
  | .eptr cs => .eptr (cleanL k cs)
  | .sptr cs e => .sptr (cleanL k cs) e
  | .iface t v => .iface t (v.clean k)
  | .fn f fs cs => .fn f (cleanL k fs) (cleanL k cs)
  | v => v
def cleanL (k : Nat) : List V → List V
  | [] => []
  | v :: r => v.clean k :: cleanL k r
end

theorem fitsL_iff {n nm k : Nat} : ∀ {l : List V}, fitsL n nm k l = true ↔ ∀ v ∈ l, v.fits n nm k = true
  | [] => by simp [fitsL]
  | v :: r => by simp [fitsL, fitsL_iff]

theorem cleanL_eq {k : Nat} : ∀ (l : List V), cleanL k l = l.map (V.clean k)
  | [] => rfl
  | v :: r => by simp [cleanL, cleanL_eq r]

theorem fits_getD {n nm k : Nat} {l : List V} (h : fitsL n nm k l = true) {i : Nat} (hi : i < l.length) : (l.getD i .und).fits n nm k = true := by
  rw [List.getD_eq_getElem?_getD, List.getElem?_eq_getElem hi]
  exact fitsL_iff.1 h _ (List.getElem_mem hi)

theorem fits_cells {n nm k : Nat} {v : V} (h : v.fits n nm k = true) : fitsL n nm k v.cells = true := by
  cases v <;> first | exact h | (simp only [V.cells, fitsL, Bool.and_true]; exact h)

theorem fits_of_cells {n nm k : Nat} {v : V} (h : fitsL n nm k v.cells = true) : v.fits n nm k = true := by
  cases v <;> first | exact h | (simp only [V.cells, fitsL, Bool.and_true] at h; exact h)

theorem clean_cells (k : Nat) (v : V) : (v.clean k).cells = cleanL k v.cells := by
  cases v <;> simp [V.clean, V.cells, cleanL]

theorem cleanL_getD (k : Nat) (l : List V) (i : Nat) (hi : i < l.length) : (cleanL k l).getD i .und = (l.getD i .und).clean k := by
  rw [cleanL_eq, List.getD_eq_getElem?_getD, List.getD_eq_getElem?_getD]
  simp [List.getElem?_eq_getElem hi]

def Mem.trunc (μ : Mem) (n nm k : Nat) : Mem := { μ with n := n, nm := nm, tl := μ.tl.take k }

section
variable {X : Ctx} {m : Nat} {μ : Mem} {w : World} {fr : Fr} {σ : St} {a : Act}

theorem getD_take {l : List Nat} {i k : Nat} (h : i < k) : (l.take k).getD i 0 = l.getD i 0 := by
  simp only [List.getD_eq_getElem?_getD, List.getElem?_take, if_pos h]

theorem RV.trunc {n nm k : Nat} {v : V} {u : Value} (h : RV μ w v u) (hf : v.fits n nm k = true) : RV (μ.trunc n nm k) w v u := by
  induction h with
  | bool b => exact .bool b
  | int k n => exact .int k n
  | str s => exact .str s
  | agg cs us h1 h2 _ ih => exact .agg cs us h1 h2 fun i hi => ih i hi (fits_getD hf hi)
  | tup cs us h1 _ ih => exact .tup cs us h1 fun i hi => ih i hi (fits_getD hf hi)
  | nils => exact .nils
  | slc0 a cap => exact .slc0 a cap
  | slc xs tk b off cap sz us h1 h2 h3 h4 h5 h6 h7 h8 ih =>
    simp only [V.fits, Bool.and_eq_true] at hf
    refine .slc xs tk b off cap sz us h1 h2 h3 h4 h5 (fun i hi j hj => ih i hi j hj ?_) ?_ h8
    · have hx := fits_cells (fits_getD hf.1 hi)
      refine fits_getD hx ?_
      have hm : xs.getD i .und ∈ xs := by
        rw [List.getD_eq_getElem?_getD, List.getElem?_eq_getElem hi]; exact List.getElem_mem hi
      rw [h1 _ hm]; exact hj
    · cases tk with
      | no => trivial
      | full => exact h7
      | own i =>
        have hik : i < k := by simpa [Tk.fits] using hf.2
        obtain ⟨k1, k2, k3⟩ := h7
        refine ⟨?_, ?_, ?_⟩
        · simp only [Mem.trunc, List.length_take]; omega
        · simp only [Mem.trunc]; rw [getD_take hik]; exact k2
        · simp only [Mem.trunc]; rw [getD_take hik]; exact k3
  | ref o off ho => exact RV.ref (μ := μ.trunc n nm k) o off (by simpa [V.fits, Mem.trunc] using hf)
  | nilp => exact .nilp
  | gref g off => exact .gref g off
  | eptr cs us b off h1 h2 h3 h4 _ ih => exact .eptr cs us b off h1 h2 h3 h4 fun i hi => ih i hi (fits_getD hf hi)
  | sptr cs e us b off h1 h2 h3 h0 h4 _ ih => exact .sptr cs e us b off h1 h2 h3 h0 h4 fun i hi => ih i hi (fits_getD hf hi)
  | iface t v u _ ih => exact .iface t v u (ih hf)
  | nilI => exact .nilI
  | fn f fs cs us vs h1 _ h3 _ ih1 ih2 =>
    simp only [V.fits, Bool.and_eq_true] at hf
    exact .fn f fs cs us vs h1 (fun i hi => ih1 i hi (fits_getD hf.1 hi)) h3 fun i hi => ih2 i hi (fits_getD hf.2 hi)
  | nilF => exact .nilF
  | mp r hr => exact RV.mp (μ := μ.trunc n nm k) r (by simpa [V.fits, Mem.trunc] using hf)
  | nilM => exact .nilM

theorem RV.clean (k : Nat) {v : V} {u : Value} (h : RV μ w v u) : RV μ w (v.clean k) u := by
  have lift : ∀ {cs : List V} {us : List Value}, cs.length = us.length → (∀ i, i < cs.length → RV μ w ((cs.getD i .und).clean k) (us.getD i undef)) → (cleanL k cs).length = us.length ∧ ∀ i, i < (cleanL k cs).length → RV μ w ((cleanL k cs).getD i .und) (us.getD i undef) := by
    intro cs us h1 h2
    have hl : (cleanL k cs).length = cs.length := by rw [cleanL_eq, List.length_map]
    refine ⟨by rw [hl, h1], fun i hi => ?_⟩
    rw [hl] at hi
    rw [cleanL_getD k cs i hi]
    exact h2 i hi
  induction h with
  | agg cs us h1 h2 _ ih =>
    obtain ⟨k1, k2⟩ := lift h1 ih
    exact .agg _ us k1 h2 k2
  | tup cs us h1 _ ih =>
    obtain ⟨k1, k2⟩ := lift h1 ih
    exact .tup _ us k1 k2
  | nils => exact .nils
  | slc0 a cap => exact .slc0 a cap
  | slc xs tk b off cap sz us h1 h2 h3 h4 h5 h6 h7 h8 ih =>
    have hl : (cleanL k xs).length = xs.length := by rw [cleanL_eq, List.length_map]
    have := RV.slc (μ := μ) (w := w) (cleanL k xs) (tk.clean k) b off cap sz us (fun x hx => by
        rw [cleanL_eq] at hx
        obtain ⟨y, hy, rfl⟩ := List.mem_map.1 hx
        rw [clean_cells, cleanL_eq, List.length_map]
        exact h1 y hy) (by rw [hl]; exact h2) h3 h4 h5 (fun i hi j hj => by
        rw [hl] at hi
        rw [cleanL_getD k xs i hi, clean_cells]
        have hm : xs.getD i .und ∈ xs := by
          rw [List.getD_eq_getElem?_getD, List.getElem?_eq_getElem hi]; exact List.getElem_mem hi
        rw [cleanL_getD k _ j (by rw [h1 _ hm]; exact hj)]
        exact ih i hi j hj) (by
        rw [hl]
        cases tk with
        | no => trivial
        | full => exact h7
        | own i =>
          simp only [Tk.clean]
          split
          · exact h7
          · trivial) (by rw [hl]; exact h8)
    rw [hl] at this
    exact this
  | eptr cs us b off h1 h2 h3 h4 _ ih =>
    obtain ⟨k1, k2⟩ := lift h1 ih
    exact .eptr _ us b off k1 h2 h3 h4 k2
  | sptr cs e us b off h1 h2 h3 h0 h4 _ ih =>
    obtain ⟨k1, k2⟩ := lift h1 ih
    exact .sptr _ e us b off k1 h2 h3 h0 h4 k2
  | iface t v u _ ih => exact .iface t _ u ih
  | fn f fs cs us vs h1 _ h3 _ ih1 ih2 =>
    obtain ⟨k1, k2⟩ := lift h1 ih1
    obtain ⟨k3, k4⟩ := lift h3 ih2
    exact .fn f _ _ us vs k1 k2 k3 k4
  | bool b => exact .bool b
  | int k n => exact .int k n
  | str s => exact .str s
  | ref o off ho => exact .ref o off ho
  | nilp => exact .nilp
  | gref g off => exact .gref g off
  | nilI => exact .nilI
  | nilF => exact .nilF
  | mp r hr => exact .mp r hr
  | nilM => exact .nilM

/-- A value that lies in memory names nothing else. -/
theorem RV.fits {v : V} {u : Value} (h : RV μ w v u) : v.fits μ.n μ.nm μ.tl.length = true := by
  have lift : ∀ {cs : List V}, (∀ i, i < cs.length → (cs.getD i .und).fits μ.n μ.nm μ.tl.length = true) → fitsL μ.n μ.nm μ.tl.length cs = true := by
    intro cs h
    rw [fitsL_iff]
    intro v hv
    obtain ⟨i, hi, rfl⟩ := List.getElem_of_mem hv
    have := h i hi
    rwa [List.getD_eq_getElem?_getD, List.getElem?_eq_getElem hi] at this
  induction h with
  | agg cs us h1 h2 _ ih => exact lift ih
  | tup cs us h1 _ ih => exact lift ih
  | nils => rfl
  | slc xs tk b off cap sz us h1 h2 h3 h4 h5 h6 h7 h8 ih =>
    simp only [V.fits, Bool.and_eq_true]
    refine ⟨lift fun i hi => fits_of_cells (lift fun j hj => ?_), ?_⟩
    · have hm : xs.getD i .und ∈ xs := by
        rw [List.getD_eq_getElem?_getD, List.getElem?_eq_getElem hi]; exact List.getElem_mem hi
      rw [h1 _ hm] at hj
      exact ih i hi j hj
    · cases tk with
      | own i => simpa [Tk.fits] using h7.1
      | _ => rfl
  | ref o off ho => simpa [V.fits] using ho
  | eptr cs us b off h1 h2 h3 h4 _ ih => exact lift ih
  | sptr cs e us b off h1 h2 h3 h0 h4 _ ih => exact lift ih
  | iface t v u _ ih => exact ih
  | fn f fs cs us vs h1 _ h3 _ ih1 ih2 => simp only [V.fits, Bool.and_eq_true]; exact ⟨lift ih1, lift ih2⟩
  | mp r hr => simpa [V.fits] using hr
  | _ => rfl

end
end Go.Vs

namespace Go.Vs

/-- Cells set in one block. -/
def setMany (c : Array Value) : Nat → List Value → Array Value
  | _, [] => c
  | o, v :: r => setMany (c.setIfInBounds o v) (o + 1) r

def objSet (o : Nat) (vs : List Value) : Obj → Obj
  | .cells c e f => .cells (setMany c o vs) e f
  | x => x

theorem setMany_size : ∀ (vs : List Value) (o : Nat) (c : Array Value), (setMany c o vs).size = c.size
  | [], _, _ => rfl
  | v :: r, o, c => by rw [setMany, setMany_size r]; simp

theorem setMany_get : ∀ (vs : List Value) (o : Nat) (c : Array Value) (i : Nat), (setMany c o vs)[i]? = if o ≤ i ∧ i < o + vs.length ∧ i < c.size then vs[i - o]? else c[i]?
  | [], o, c, i => by simp only [setMany]; rw [if_neg (by simp; omega)]
  | v :: r, o, c, i => by
    rw [setMany, setMany_get r (o + 1)]
    simp only [Array.size_setIfInBounds, List.length_cons]
    by_cases h1 : o + 1 ≤ i ∧ i < o + 1 + r.length ∧ i < c.size
    · rw [if_pos h1, if_pos (by omega), show i - o = (i - (o + 1)) + 1 by omega, List.getElem?_cons_succ]
    · rw [if_neg h1]
      by_cases h2 : o ≤ i ∧ i < o + (r.length + 1) ∧ i < c.size
      · have e : i = o := by omega
        subst e
        rw [if_pos h2, Nat.sub_self, List.getElem?_cons_zero]
        rw [Array.getElem?_setIfInBounds_self_of_lt h2.2.2]
      · rw [if_neg h2]
        by_cases e : o = i
        · subst e
          have : c.size ≤ o := by omega
          rw [Array.getElem?_eq_none (by simpa using this), Array.getElem?_eq_none this]
        · rw [Array.getElem?_setIfInBounds_ne e]

theorem setCells_heap (b : Nat) : ∀ (vs : List Value) (o : Nat) (w : World) (k : Nat), (w.setCells b o vs).heap[k]? = if k = b then (w.heap[k]?).map (objSet o vs) else w.heap[k]?
  | [], o, w, k => by
    have : objSet o [] = id := by funext x; cases x <;> rfl
    simp [World.setCells, this]
  | v :: r, o, w, k => by
    rw [World.setCells, setCells_heap b r (o + 1)]
    by_cases h : k = b
    · subst h
      simp only [if_true, World.setCell, Array.getElem?_modify, Option.map_map]
      congr 1
      funext x
      cases x <;> rfl
    · rw [if_neg h, if_neg h]
      simp only [World.setCell, Array.getElem?_modify]
      rw [if_neg (fun e => h e.symm)]

theorem setCells_with (b : Nat) : ∀ (vs : List Value) (o : Nat) (w : World), w.setCells b o vs = { w with heap := (w.setCells b o vs).heap }
  | [], _, _ => rfl
  | v :: r, o, w => by
    rw [World.setCells, setCells_with b r (o + 1)]
    rfl

theorem arr_ext {α : Type} {h1 h2 : Array α} (h : ∀ k : Nat, h1[k]? = h2[k]?) : h1 = h2 := by
  apply Array.ext'
  apply List.ext_getElem?
  intro i
  simpa using h i

theorem setCells_comm {w : World} {b b' : Nat} (hb : b ≠ b') (o o' : Nat) (vs vs' : List Value) : (w.setCells b o vs).setCells b' o' vs' = (w.setCells b' o' vs').setCells b o vs := by
  rw [setCells_with b' vs', setCells_with b vs, setCells_with b vs o (w.setCells b' o' vs'), setCells_with b' vs' o' w]
  have : ((w.setCells b o vs).setCells b' o' vs').heap = ((w.setCells b' o' vs').setCells b o vs).heap := arr_ext fun k => by
    simp only [setCells_heap]
    by_cases h1 : k = b
    · subst h1; simp [hb]
    · simp [h1]
  rw [setCells_with b vs] at this
  rw [setCells_with b' vs' o' w] at this
  rw [this]

theorem setCells_twice {w : World} {b : Nat} (o : Nat) {vs zs : List Value} (hl : zs.length = vs.length) : (w.setCells b o zs).setCells b o vs = w.setCells b o vs := by
  rw [setCells_with b vs, setCells_with b zs, setCells_with b vs o w]
  have : ((w.setCells b o zs).setCells b o vs).heap = (w.setCells b o vs).heap := arr_ext fun k => by
    simp only [setCells_heap]
    by_cases h1 : k = b
    · subst h1
      simp only [if_true, Option.map_map]
      congr 1
      funext x
      cases x with
      | cells c e f =>
        simp only [Function.comp, objSet]
        congr 1
        refine arr_ext fun i => ?_
        simp only [setMany_get, setMany_size, hl]
        split <;> rfl
      | _ => rfl
    · simp [h1]
  rw [setCells_with b zs] at this
  rw [this]
theorem setCells_alloc {w : World} {olds zs vs : List Value} {pad : Array Value} {e : TypeId} (hl : zs.length = vs.length) :
    (w.alloc (.cells ((olds ++ zs).toArray ++ pad) e)).setCells w.heap.size olds.length vs = w.alloc (.cells ((olds ++ vs).toArray ++ pad) e) := by
  rw [setCells_with]
  have : ((w.alloc (.cells ((olds ++ zs).toArray ++ pad) e)).setCells w.heap.size olds.length vs).heap = (w.alloc (.cells ((olds ++ vs).toArray ++ pad) e)).heap := arr_ext fun k => by
    simp only [setCells_heap, World.alloc, Array.getElem?_push]
    by_cases h1 : k = w.heap.size
    · subst h1
      simp only [if_true, Option.map_some, objSet]
      congr 1
      congr 1
      refine arr_ext fun i => ?_
      simp only [setMany_get]
      simp only [List.getElem?_toArray, Array.getElem?_append, List.size_toArray, List.length_append, hl, Array.size_append]
      by_cases h2 : i < olds.length
      · rw [if_neg (by omega), if_pos (by omega), if_pos (by omega), List.getElem?_append_left h2, List.getElem?_append_left h2]
      · by_cases h3 : i < olds.length + vs.length
        · rw [if_pos (by omega), if_pos h3, List.getElem?_append_right (by omega)]
        · rw [if_neg (by omega), if_neg h3, if_neg h3]
    · simp only [if_neg h1]
  rw [this]
  rfl

section
variable {P : Program} {m : Nat} {μ : Mem} {w : World} {fr : Fr} {σ : St}

/-- Where an append lays what comes: its world, as a function of the cells; a value; the block and the place. -/
structure Lays (P : Program) (sz : Nat) (t tx ty : TypeId) (x : Value) (n l : Nat) (w : World) (F : List Value → World) (u : Value) (b pos : Nat) : Prop where
  run : ∀ y news, Src P sz tx y n news w → news.length = l → (Builtin.append_ #[t, tx] ty #[x, y]).run P w = .ok u (F news)
  there : ∀ news j, news.length = l → j < l → ((F news).cell? ⟨b, pos + j, none⟩).isSome = true ∧ (F news).frozen? ⟨b, pos + j, none⟩ = false
  again : ∀ zs vs, zs.length = l → vs.length = l → (F zs).setCells b pos vs = F vs
  there2 : ∀ news, news.length = l → b < (F news).heap.size

def lenIs (a : V) (n : Nat) : Prop :=
  match a with
  | .slc true xs _ => n = xs.length
  | _ => n = 0

theorem append_lays {t tx ty e : TypeId} {ei : TypeInfo} {z : Value} {x : Value} {a y0 : V} {news : List Value} {K : V → St → Prop} (ht : P.underlying t = some (.slice e)) (hi : P.info? e = some ei) (hz : ei.zero = some z)
    (hzs : z.cells.size = ei.size) (hby : ei.bytes ≤ 4096) (hx : RV μ w a x) (hrow : Row μ w [y0] ei.size news) (hrel : Rel μ σ w) (h : vapp e ei.size σ a [y0] K) :
    ∃ (F : List Value → World) (off cap n : Nat) (b : Nat) (μ' : Mem) (v : V) (σ' : St), Lays P ei.size t tx ty x 1 ei.size w F (.slice (some ⟨b, off, none⟩) (n + 1) cap) b (off + n * ei.size) ∧
      lenIs a n ∧
      Ev μ w μ' (F news) ∧ Rel μ' σ' (F news) ∧ RV μ' (F news) v (.slice (some ⟨b, off, none⟩) (n + 1) cap) ∧ K v σ' ∧ (∀ o, o < μ'.n → μ'.ob o ≠ b) := by
  obtain ⟨hys, h⟩ := h
  have hnl : news.length = ei.size := by have := hrow.len; simpa using this
  have hsz : (w.drew).heap.size = w.heap.size := rfl
  have fit : ∀ {need old : Nat}, old < need → need ≤ big → Builtin.nextslicecap need old * ei.bytes ≤ 281474976710656 := fun hlt hbig =>
    growslice_fits hlt (by
      unfold big at hbig
      have : _ * ei.bytes ≤ 4294967296 * 4096 := Nat.mul_le_mul hbig hby
      omega)
  -- a new row: what is laid
  have newRow : ∀ {base : Option Addr} {xs : List V} {olds : List Value} {cap : Nat}, x = .slice base xs.length cap → Row μ w xs ei.size olds →
      (Builtin.firstCells ei.size xs.length (.slice base xs.length cap)).run P w.drew = .ok olds.toArray w.drew → cap < xs.length + 1 → xs.length + 1 ≤ big →
      ∃ cap', xs.length + 1 ≤ cap' ∧ Lays P ei.size t tx ty x 1 ei.size w (fun news => w.drew.alloc (.cells ((olds ++ news).toArray ++ Builtin.zeroCells z.cells (cap' - (xs.length + 1))) e)) (.slice (some ⟨w.heap.size, 0, none⟩) (xs.length + 1) cap') w.heap.size (0 + xs.length * ei.size) := by
    intro base xs olds cap ex hr hold hg hbig
    refine ⟨grownCap w (xs.length + 1) cap e, grownCap_ge w (xs.length + 1) cap e, ⟨fun y news hsrc hl => ?_, fun news j hl hj => ?_, fun zs vs h1 h2 => ?_, fun news hl => ?_⟩⟩
    · have := run_append_grow_src (P := P) w t tx ty e ei z ht hi hz base xs.length cap olds hold y 1 news hsrc hg (by unfold big at hbig; omega) (fit hg hbig)
      rw [← ex] at this
      exact this
    · have hat := World.cell?_alloc_at (w := w.drew) ((olds ++ news).toArray ++ Builtin.zeroCells z.cells (grownCap w (xs.length + 1) cap e - (xs.length + 1))) e w.heap.size (0 + xs.length * ei.size + j) rfl
      refine ⟨?_, ?_⟩
      · rw [hat, Array.getElem?_eq_getElem (by simp [hr.len]; omega)]; rfl
      · have hh : ∀ C : Array Value, (w.drew.alloc (.cells C e)).heap[w.heap.size]? = some (.cells C e) := fun C => by
          show (w.heap.push _)[w.heap.size]? = _
          simp
        simp only [World.frozen?, hh]
        simp
    · have := setCells_alloc (w := w.drew) (olds := olds) (zs := zs) (vs := vs) (pad := Builtin.zeroCells z.cells (grownCap w (xs.length + 1) cap e - (xs.length + 1))) (e := e) (by omega)
      rw [Nat.zero_add, ← hr.len]
      exact this
    · show w.heap.size < (w.heap.push _).size
      simp
  -- a new row under a new mark
  have fresh : ∀ {base : Option Addr} {xs : List V} {olds : List Value} {cap : Nat}, x = .slice base xs.length cap → Row μ w xs ei.size olds →
      (Builtin.firstCells ei.size xs.length (.slice base xs.length cap)).run P w.drew = .ok olds.toArray w.drew → cap < xs.length + 1 → xs.length + 1 ≤ big →
      K (.slc true (xs ++ [y0]) (.own σ.toks.length)) { σ with toks := σ.toks ++ [xs.length + 1], tts := σ.tts ++ [e] } →
      ∃ (F : List Value → World) (off cap : Nat) (b : Nat) (μ' : Mem) (v : V) (σ' : St), Lays P ei.size t tx ty x 1 ei.size w F (.slice (some ⟨b, off, none⟩) (xs.length + 1) cap) b (off + xs.length * ei.size) ∧
        Ev μ w μ' (F news) ∧ Rel μ' σ' (F news) ∧ RV μ' (F news) v (.slice (some ⟨b, off, none⟩) (xs.length + 1) cap) ∧ K v σ' ∧ (∀ o, o < μ'.n → μ'.ob o ≠ b) := by
    intro base xs olds cap ex hr hold hg hbig hk
    obtain ⟨cap', hge, hlays⟩ := newRow ex hr hold hg hbig
    have hrow2 := hr.append hrow
    generalize hC : (olds ++ news).toArray ++ Builtin.zeroCells z.cells (cap' - (xs.length + 1)) = C
    have hreld := hrel.drew
    have hrel1 := hreld.alloc (.cells C e) ((xs.length + 1) * ei.size)
    have hev1 := (Ev.drew μ w).trans (Ev.alloc hreld (.cells C e) ((xs.length + 1) * ei.size))
    have hs1 : (w.drew.alloc (.cells C e)).heap.size = w.heap.size + 1 := Array.size_push ..
    have hno : ∀ o, o < μ.n → μ.ob o ≠ w.heap.size := fun o ho e => by have := hrel.ob_lt ho; have e' : μ.ob o = w.heap.size := e; omega
    have hrel2 := hrel1.addT (b := w.heap.size) (off := 0) (sz := ei.size) (len := xs.length + 1) (by rw [hev1.base]; exact hrel.base) (by rw [hs1]; omega) (by simp [Mem.prot, hsz])
      hno (fun t ht e => by have := (hrel.tok t ht).2.1; have e' : (μ.tk t).1 = w.heap.size := e; omega)
      (fun r hr e => by have := hrel.mb_lt hr; have e' : μ.mb r = w.heap.size := e; omega) e
    have hev2 := hev1.trans (Ev.addT (μ.prot w.heap.size ((xs.length + 1) * ei.size)) (w.drew.alloc (.cells C e)) e (w.heap.size, 0, ei.size) (xs.length + 1))
    have htl : μ.tl.length = σ.toks.length := by rw [hrel.tl]
    have hval := grown_row (μ' := (μ.prot w.heap.size ((xs.length + 1) * ei.size)).addT e (w.heap.size, 0, ei.size) (xs.length + 1)) (e := e) hrel hrow2 hzs (cap := cap') (by simpa using hge) σ.toks.length
      (by rw [List.length_append]; exact hC.symm) hev2 (by simp [Mem.addT, Mem.prot]) (by simp [Mem.addT, Mem.prot, htl])
      (by simp only [Mem.addT, Mem.prot, List.getD_eq_getElem?_getD, ← htl, List.getElem?_append_right (Nat.le_refl _), Nat.sub_self]; simp) (by simp [Mem.addT, Mem.prot, htl]) (by simp [Mem.addT, Mem.prot, htl])
    rw [List.length_append] at hval
    refine ⟨_, 0, cap', w.heap.size, (μ.prot w.heap.size ((xs.length + 1) * ei.size)).addT e (w.heap.size, 0, ei.size) (xs.length + 1), _, _, hlays, ?_, ?_, ?_, hk, hno⟩
    · simp only [hC]; exact hev2
    · simp only [hC]; exact hrel2
    · simp only [hC]; exact hval
  cases a with
  | slc nn xs tk =>
    cases nn with
    | false =>
      obtain ⟨hbig, h⟩ := h
      cases hx with
      | nils =>
        rw [if_neg (by simp)] at h
        obtain ⟨F, off, cap, b, μ', v, σ', h1, h2⟩ := fresh (base := none) (xs := []) (olds := []) (cap := 0) rfl (Row.nil _) (by simp [Builtin.firstCells]) (by simp) (by simpa using hbig) (by simpa using h)
        exact ⟨F, off, cap, 0, b, μ', v, σ', h1, rfl, h2⟩
    | true =>
      cases tk with
      | no => exact h.elim
      | full =>
        obtain ⟨hxs, hbig, h⟩ := h
        obtain ⟨b, off, cap, us, ex, hr, hat, hpr, htk, hle, sz', htk'⟩ := hx.rowOf hxs (by intro _ h; cases h)
        have hcap : xs.length = cap := htk'
        rw [if_neg (by simp)] at h
        obtain ⟨F, off, cap, b, μ', v, σ', h1, h2⟩ := fresh (olds := us) ex hr (run_firstCells_some w.drew ei.size xs.length ⟨b, off, none⟩ xs.length cap us hr.len (fun j v hv => by rw [Addr.add_mid]; exact hat j v hv)) (by omega) (by simpa using hbig) (by simpa using h)
        exact ⟨F, off, cap, xs.length, b, μ', v, σ', h1, rfl, h2⟩
      | own i =>
        obtain ⟨hxs, hne, hbig, htoks, htts, h⟩ := h
        have hbig' : xs.length + 1 ≤ big := by simpa using hbig
        have h' : K (.slc true (xs ++ [y0]) (.own i)) { σ with toks := σ.toks.set i (xs.length + 1) } := by simpa using h
        obtain ⟨b, off, cap, us, ex, hr, hat, hpr, htk, hle, _⟩ := hx.rowOf hxs (by intro _ h; cases h)
        obtain ⟨k1, k2, k3⟩ := htk hne
        have hget : μ.tl.getD i 0 = xs.length := by rw [hrel.tl, List.getD_eq_getElem?_getD, htoks]; rfl
        obtain ⟨k4, k5, k6, kc, kf, k7, k8⟩ := k3 hget
        have hte : μ.tt i = e := hrel.tt i e htts
        have hfz : ∀ j, off + xs.length * ei.size ≤ j → w.frozen? ⟨b, j, none⟩ = false := fun j hj => by
          simp only [World.frozen?, k7]
          simp; omega
        obtain ⟨t1, t2, t3, t4⟩ := hrel.tok i k1
        rw [k4] at t1 t2 t3 t4
        simp only at t1 t2 t3 t4
        by_cases hroom : xs.length + 1 ≤ cap
        · -- there is room
          have hmul : ∀ j, j < ei.size → xs.length * ei.size + j < cap * ei.size := fun j hj => by
            have := Nat.mul_le_mul_right ei.size hroom
            rw [Nat.add_mul] at this
            omega
          have hcell : ∀ j, j < ei.size → (w.cell? ⟨b, off + xs.length * ei.size + j, none⟩).isSome = true ∧ w.frozen? ⟨b, off + xs.length * ei.size + j, none⟩ = false := fun j hj => by
            have := k6 (xs.length * ei.size + j) (by omega) (hmul j hj)
            rw [← Nat.add_assoc] at this
            exact ⟨this, hfz _ (by omega)⟩
          have hlays : Lays P ei.size t tx ty x 1 ei.size w (fun news => w.setCells b (off + xs.length * ei.size) news) (.slice (some ⟨b, off, none⟩) (xs.length + 1) cap) b (off + xs.length * ei.size) := by
            refine ⟨fun y news hsrc hl => ?_, fun news j hl hj => ⟨World.isSome_setCells b news _ w _ (hcell j hj).1, by rw [World.frozen?_setCells]; exact (hcell j hj).2⟩, fun zs vs h1 h2 => setCells_twice _ (by omega), fun news hl => by rw [setCells_size]; exact t2⟩
            have := run_append_room_src (P := P) w t tx ty e ei ht hi b off xs.length cap y 1 news hsrc hroom (fun j hj => (hcell j (by omega)).1) (fun j hj => (hcell j (by omega)).2)
            rw [← ex] at this
            exact this
          have hev1 : Ev μ w μ (w.setCells b (off + xs.length * ei.size) news) := Ev.write hrel news t1 (by omega)
          have hrel1 : Rel μ σ (w.setCells b (off + xs.length * ei.size) news) := hrel.other hev1 (setCells_size b news _ w) (fun k hk => setCells_heap_ne w b news _ w hk) t1 t4 (fun r hr => by
            have := hrel.mt r i hr k1
            rw [k4] at this
            exact this)
          obtain ⟨hrel2, hev2⟩ := hrel1.raise (len := xs.length + 1) k1 k4 (by rw [hget]; omega)
          have hev := hev1.trans hev2
          have hrow2 := (hr.append hrow).mono hev
          refine ⟨_, off, cap, xs.length, b, _, _, _, hlays, rfl, hev, hrel2, ?_, h', t4⟩
          have hat2 : (w.setCells b (off + xs.length * ei.size) news).rangeAt b off (us ++ news) := fun j v hv => by
            by_cases hj : j < us.length
            · rw [List.getElem?_append_left hj] at hv
              rw [World.cell?_setCells_out b news _ w ⟨b, off + j, none⟩ (fun _ _ => .inl (by show off + j < _; rw [← hr.len]; omega))]
              exact hat j v hv
            · rw [List.getElem?_append_right (Nat.le_of_not_lt hj)] at hv
              have hlt : j - us.length < news.length := (List.getElem?_eq_some_iff.1 hv).1
              have := World.cell?_setCells_in b news (off + xs.length * ei.size) w (fun j hj => (hcell j (by omega)).1) (j - us.length) hlt
              rw [show off + xs.length * ei.size + (j - us.length) = off + j by rw [← hr.len]; omega] at this
              rw [this, ← hv, List.getElem?_eq_getElem hlt]
          have hl2 : (us ++ news).length = (xs.length + 1) * ei.size := by rw [List.length_append, hr.len, hnl, Nat.add_mul, Nat.one_mul]
          have hget' : ((μ.raise i b (off + (xs.length + 1) * ei.size) (xs.length + 1)).tl.getD i 0) = xs.length + 1 := by
            simp only [Mem.raise]; exact getD_set_same k1
          have hval := RV.slc (μ := μ.raise i b (off + (xs.length + 1) * ei.size) (xs.length + 1)) (w := w.setCells b (off + xs.length * ei.size) news) (xs ++ [y0]) (.own i) b off cap ei.size (us ++ news) hrow2.size hrow2.len hat2
            (by rw [hl2]; simp [Mem.raise]) hrow2.one hrow2.el
            ⟨by simp only [Mem.raise, List.length_set]; exact k1, by rw [hget', List.length_append]; exact Nat.le_refl _, fun _ => ⟨k4, by simp [Mem.raise], fun j hj hj' => by
              have c1 := k6 j (by
                rw [List.length_append, Nat.add_mul] at hj
                omega) hj'
              exact World.isSome_setCells b news _ w _ c1, by
              obtain ⟨c', hc'⟩ := setCells_shape b news (off + xs.length * ei.size) w b kc _ kf k7
              exact ⟨c', kf, hc', by rw [List.length_append, Nat.add_mul]; omega⟩⟩⟩ (by rw [List.length_append]; exact hroom)
          rw [List.length_append] at hval
          exact hval
        · -- there is none
          have hg : cap < xs.length + 1 := by omega
          have hold : (Builtin.firstCells ei.size xs.length (.slice (some ⟨b, off, none⟩) xs.length cap)).run P w.drew = .ok us.toArray w.drew :=
            run_firstCells_some w.drew ei.size xs.length ⟨b, off, none⟩ xs.length cap us hr.len (fun j v hv => by rw [Addr.add_mid]; exact hat j v hv)
          obtain ⟨cap', hge, hlays⟩ := newRow ex hr hold hg hbig'
          have hrow2 := hr.append hrow
          generalize hC : (us ++ news).toArray ++ Builtin.zeroCells z.cells (cap' - (xs.length + 1)) = C
          have hreld := hrel.drew
          have hrel1 := hreld.alloc (.cells C e) ((xs.length + 1) * ei.size)
          have hev1 := (Ev.drew μ w).trans (Ev.alloc hreld (.cells C e) ((xs.length + 1) * ei.size))
          have hs1 : (w.drew.alloc (.cells C e)).heap.size = w.heap.size + 1 := Array.size_push ..
          have hno : ∀ o, o < μ.n → μ.ob o ≠ w.heap.size := fun o ho e => by have := hrel.ob_lt ho; have e' : μ.ob o = w.heap.size := e; omega
          have hk1 : i < (μ.prot w.heap.size ((xs.length + 1) * ei.size)).tl.length := k1
          have hlt1 : (μ.prot w.heap.size ((xs.length + 1) * ei.size)).tl.getD i 0 < xs.length + 1 := by
            have : (μ.prot w.heap.size ((xs.length + 1) * ei.size)).tl.getD i 0 = xs.length := hget
            omega
          have hrel2 := hrel1.setT (i := i) (b := w.heap.size) (off := 0) (sz := ei.size) (len := xs.length + 1) hk1 hlt1 (by rw [hev1.base]; exact hrel.base) (by rw [hs1]; omega) (by simp [Mem.prot, hsz])
            hno (fun t ht e => by have := (hrel.tok t ht).2.1; have e' : (μ.tk t).1 = w.heap.size := e; omega)
            (fun r hr e => by have := hrel.mb_lt hr; have e' : μ.mb r = w.heap.size := e; omega)
          have hev2 := hev1.trans (Ev.setT (w := w.drew.alloc (.cells C e)) (t := (w.heap.size, 0, ei.size)) hk1 hlt1)
          have hval := grown_row (μ' := (μ.prot w.heap.size ((xs.length + 1) * ei.size)).setT i (w.heap.size, 0, ei.size) (xs.length + 1)) (e := e) hrel hrow2 hzs (cap := cap') (by simpa using hge) i
            (by rw [List.length_append]; exact hC.symm) hev2 (by simp [Mem.setT, Mem.prot]) (by simp only [Mem.setT, Mem.prot, List.length_set]; exact k1)
            (by rw [List.length_append]; simp only [Mem.setT, Mem.prot]; exact getD_set_same k1) (by simp [Mem.setT]) hte
          rw [List.length_append] at hval
          refine ⟨_, 0, cap', xs.length, w.heap.size, (μ.prot w.heap.size ((xs.length + 1) * ei.size)).setT i (w.heap.size, 0, ei.size) (xs.length + 1), _, _, hlays, rfl, ?_, ?_, ?_, h', hno⟩
          · simp only [hC]; exact hev2
          · simp only [hC]; exact hrel2
          · simp only [hC]; exact hval
  | _ => exact h.elim
end
end Go.Vs

namespace Go.Vs

/-- The five operations of such an end, read. -/
def ctailOps (P : Program) (m : Nat) : List Oper → Option VTail
  | [⟨some d8, .call ⟨.builtin .append, args, argTypes⟩, _, _, _, none⟩, ⟨some d9, .indexAddr t7 (.tmp a7) n', _, _, _, none⟩, ⟨none, .store t8 (.tmp a8) v', _, _, _, none⟩, ⟨some d10, .fieldAddr s9 s' f, _, _, _, none⟩, ⟨none, .store t10 (.tmp a10) (.tmp b10), _, _, _, none⟩] =>
    match args.toList, argTypes.toList with
    | [x', y'], [t, tu] => match P.underlying t, P.underlying tu, P.underlying t7, P.underlying s9 with
      | some (.slice e), some (.slice _), some (.slice e7), some (.struct fs) => do
        let ei ← P.info? e
        let z ← ei.zero
        let zv ← cval z
        let e7i ← P.info? e7
        let i8 ← P.info? t8
        let fd ← fs[f]?
        let fi ← P.info? fd.type
        let i10 ← P.info? t10
        let x ← copd m x'
        let y ← copd m y'
        let n ← copd m n'
        let v ← copd m v'
        let s ← copd m s'
        if (zv.cells.length = ei.size ∧ ei.bytes ≤ 4096 ∧ 0 < ei.size ∧ e7i.size = ei.size ∧ i8.size = ei.size ∧ fi.size ≠ 0 ∧ i10.size = 1) ∧ (a7 = d8 ∧ a8 = d9 ∧ a10 = d10 ∧ b10 = d8) ∧ (d8 < m ∧ d9 < m ∧ d10 < m ∧ d8 ≠ d9 ∧ d8 ≠ d10 ∧ d9 ≠ d10) ∧
            (∀ q ∈ n.tmps ++ v.tmps ++ s.tmps, q ≠ d8 ∧ q ≠ d9 ∧ q ≠ d10) then
          some ⟨e, ei.size, zv.cells, x, y, n, v, s, fd.offset, d8, d9, d10⟩
        else none
      | _, _, _, _ => none
    | _, _ => none
  | _ => none

def edgesTo (o : Oper) (j : Nat) : Bool := o.after.toList.any fun e => Region.binds .any e && Nat.beq e.on j
def edgesIn (o : Oper) (p : Nat → Bool) : Bool := o.after.toList.all fun e => !Region.binds .any e || p e.on

/-- The edges of such an end, behind k operations. -/
def tailEdges (k : Nat) : List Oper → Bool
  | [o6, o7, o8, o9, o10] =>
    (List.range k).all (fun j => edgesTo o6 j) && (List.range (k + 1)).all (fun j => edgesTo o7 j && edgesTo o8 j && edgesTo o9 j && edgesTo o10 j) && edgesTo o8 (k + 1) && edgesTo o10 (k + 3) &&
    edgesIn o6 (fun j => Nat.blt j k) && edgesIn o7 (fun j => Nat.ble j k) && edgesIn o8 (fun j => Nat.ble j (k + 1)) && edgesIn o9 (fun j => Nat.ble j k) && edgesIn o10 (fun j => Nat.ble j k || Nat.beq j (k + 3))
  | _ => false

theorem edgesTo_mem {o : Oper} {j : Nat} (h : edgesTo o j = true) : ∃ e ∈ o.after, Region.binds .any e = true ∧ e.on = j := by
  simp only [edgesTo, List.any_eq_true, Bool.and_eq_true] at h
  obtain ⟨e, he, h1, h2⟩ := h
  exact ⟨e, by simpa using he, h1, Nat.eq_of_beq_eq_true h2⟩

theorem edgesIn_mem {o : Oper} {p : Nat → Bool} (h : edgesIn o p = true) : ∀ e ∈ o.after, Region.binds .any e = true → p e.on = true := by
  intro e he hb
  simp only [edgesIn, List.all_eq_true] at h
  have := h e (by simpa using he)
  rw [hb] at this
  simpa using this

section
variable {X : Ctx} {m : Nat} {μ : Mem} {w : World} {fr : Fr} {σ : St} {a : Act}

/-- Two chains of two operations each, in whatever order. -/
theorem chains {P : Program} {ops : Array Oper} {Q : Exit → Act → World → Prop} {k : Nat} (S : Nat → Nat → Act → World → Prop) (hsz : ops.size = k + 5)
    (hE : ∀ e s a w (next : Act → World → Prop), e < 2 → s ≤ 2 → S e s a w → (∀ a' w', S (e + 1) s a' w' → next a' w') → wpOp P ops Q (k + 1 + e) next a w)
    (hS : ∀ e s a w (next : Act → World → Prop), e ≤ 2 → s < 2 → S e s a w → (∀ a' w', S e (s + 1) a' w' → next a' w') → wpOp P ops Q (k + 3 + s) next a w)
    (hfin : ∀ a w, S 2 2 a w → Q .normal a w)
    (to8 : ∀ o, ops[k + 2]? = some o → ∃ e ∈ o.after, Region.binds .any e = true ∧ e.on = k + 1) (to10 : ∀ o, ops[k + 4]? = some o → ∃ e ∈ o.after, Region.binds .any e = true ∧ e.on = k + 3)
    (in7 : ∀ o, ops[k + 1]? = some o → ∀ e ∈ o.after, Region.binds .any e = true → e.on ≤ k) (in8 : ∀ o, ops[k + 2]? = some o → ∀ e ∈ o.after, Region.binds .any e = true → e.on ≤ k + 1)
    (in9 : ∀ o, ops[k + 3]? = some o → ∀ e ∈ o.after, Region.binds .any e = true → e.on ≤ k) (in10 : ∀ o, ops[k + 4]? = some o → ∀ e ∈ o.after, Region.binds .any e = true → e.on ≤ k ∨ e.on = k + 3) :
    ∀ (fuel e s : Nat) (L : Array Bool) (a : Act) (w : World), e ≤ 2 → s ≤ 2 → 4 ≤ fuel + e + s → L.size = k + 5 → (∀ i, i < k + 5 → L.getD i false = (decide (i < k + 1 + e) && decide (i < k + 3) || decide (k + 3 ≤ i) && decide (i < k + 3 + s))) → S e s a w →
      wpAny P .any ops Q fuel L a w := by
  have get : ∀ i, i < k + 5 → ∃ o, ops[i]? = some o := fun i hi => ⟨ops[i], Array.getElem?_eq_getElem (by omega)⟩
  -- what may come up
  have up : ∀ (e s : Nat) (L : Array Bool) (i : Nat), e ≤ 2 → s ≤ 2 → L.size = k + 5 → (∀ i, i < k + 5 → L.getD i false = (decide (i < k + 1 + e) && decide (i < k + 3) || decide (k + 3 ≤ i) && decide (i < k + 3 + s))) →
      i ∈ Region.ready .any ops L → (i = k + 1 + e ∧ e < 2) ∨ (i = k + 3 + s ∧ s < 2) := by
    intro e s L i he hs hL hl hi
    obtain ⟨h1, o, ho, hall⟩ := mem_ready.1 hi
    have hlt : i < k + 5 := by have := (Array.getElem?_eq_some_iff.1 ho).1; omega
    rw [getD_true_false (by omega), hl i hlt] at h1
    simp only [Bool.or_eq_false_iff, Bool.and_eq_false_iff, decide_eq_false_iff_not] at h1
    by_cases c8 : i = k + 2
    · subst c8
      obtain ⟨ed, hed, hb, hon⟩ := to8 o ho
      have := hall ed hed hb
      rw [hon, hl (k + 1) (by omega)] at this
      simp only [Bool.or_eq_true, Bool.and_eq_true, decide_eq_true_eq] at this
      omega
    by_cases c10 : i = k + 4
    · subst c10
      obtain ⟨ed, hed, hb, hon⟩ := to10 o ho
      have := hall ed hed hb
      rw [hon, hl (k + 3) (by omega)] at this
      simp only [Bool.or_eq_true, Bool.and_eq_true, decide_eq_true_eq] at this
      omega
    omega
  -- while something is left, something may come up
  have some8 : ∀ (e s : Nat) (L : Array Bool), e ≤ 2 → s ≤ 2 → L.size = k + 5 → (∀ i, i < k + 5 → L.getD i false = (decide (i < k + 1 + e) && decide (i < k + 3) || decide (k + 3 ≤ i) && decide (i < k + 3 + s))) →
      Region.ready .any ops L = [] → e = 2 ∧ s = 2 := by
    intro e s L he hs hL hl hr
    have no : ∀ i, i < k + 5 → L.getD i false = false → (∀ o, ops[i]? = some o → ∀ ed ∈ o.after, Region.binds .any ed = true → L.getD ed.on false = true) → False := fun i hi h1 h2 => by
      obtain ⟨o, ho⟩ := get i hi
      have : i ∈ Region.ready .any ops L := mem_ready.2 ⟨by rw [getD_true_false (by omega)]; exact h1, o, ho, h2 o ho⟩
      rw [hr] at this
      cases this
    refine ⟨Classical.byContradiction fun hne => ?_, Classical.byContradiction fun hne => ?_⟩
    · rcases (show e = 0 ∨ e = 1 by omega) with rfl | rfl
      · refine no (k + 1) (by omega) (by rw [hl _ (by omega)]; simp) fun o ho ed hed hb => ?_
        have := in7 o ho ed hed hb
        rw [hl _ (by omega)]; simp; omega
      · refine no (k + 2) (by omega) (by rw [hl _ (by omega)]; simp) fun o ho ed hed hb => ?_
        have := in8 o ho ed hed hb
        rw [hl _ (by omega)]; simp; omega
    · rcases (show s = 0 ∨ s = 1 by omega) with rfl | rfl
      · refine no (k + 3) (by omega) (by rw [hl _ (by omega)]; simp) fun o ho ed hed hb => ?_
        have := in9 o ho ed hed hb
        rw [hl _ (by omega)]; simp; omega
      · refine no (k + 4) (by omega) (by rw [hl _ (by omega)]; simp) fun o ho ed hed hb => ?_
        have := in10 o ho ed hed hb
        rw [hl _ (by omega)]; simp; omega
  have next : ∀ (L : Array Bool) (i : Nat), L.size = k + 5 → i < k + 5 → ∀ j, (L.setIfInBounds i true).getD j false = if j = i then true else L.getD j false := by
    intro L i hL hi j
    by_cases h : j = i
    · subst h; simp [hL, hi]
    · rw [getD_set_ne false (Ne.symm h), if_neg h]
  intro fuel
  induction fuel with
  | zero =>
    intro e s L a w he hs hf hL hl hst
    obtain ⟨rfl, rfl⟩ : e = 2 ∧ s = 2 := by omega
    refine ⟨?_, hfin a w hst⟩
    cases hr : Region.ready .any ops L with
    | nil => rfl
    | cons i r =>
      have := up 2 2 L i (by omega) (by omega) hL hl (by rw [hr]; exact List.mem_cons_self)
      omega
  | succ fuel ih =>
    intro e s L a w he hs hf hL hl hst
    refine ⟨fun hr => ?_, fun i hi => ?_⟩
    · obtain ⟨rfl, rfl⟩ := some8 e s L he hs hL hl hr
      exact hfin a w hst
    · rcases up e s L i he hs hL hl hi with ⟨rfl, h1⟩ | ⟨rfl, h1⟩
      · refine hE e s a w _ h1 hs hst fun a' w' hst' => ih (e + 1) s _ a' w' (by omega) hs (by omega) (by simp [hL]) (fun i hi => ?_) hst'
        rw [next L _ hL (by omega), hl i hi]
        split
        · rename_i h; subst h; simp; omega
        · rename_i h
          rw [Bool.eq_iff_iff]
          simp only [Bool.or_eq_true, Bool.and_eq_true, decide_eq_true_eq]
          omega
      · refine hS e s a w _ he h1 hst fun a' w' hst' => ih e (s + 1) _ a' w' he (by omega) (by omega) (by simp [hL]) (fun i hi => ?_) hst'
        rw [next L _ hL (by omega), hl i hi]
        split
        · rename_i h; subst h; simp
        · rename_i h
          rw [Bool.eq_iff_iff]
          simp only [Bool.or_eq_true, Bool.and_eq_true, decide_eq_true_eq]
          omega

theorem vapp_last {e : TypeId} {sz : Nat} {x y0 : V} {K : V → St → Prop} (h : vapp e sz σ x [y0] K) : vapp e sz σ x [y0] (fun v σ' => K v σ' ∧ σ'.objs = σ.objs ∧ ∃ xs tk, v = .slc true (xs ++ [y0]) tk ∧
    lenIs x xs.length ∧ ∀ y ∈ xs ++ [y0], y.cells.length = sz) := by
  obtain ⟨h0, h⟩ := h
  have hy0 : y0.cells.length = sz := (h0 y0 (by simp)).1
  refine ⟨h0, ?_⟩
  split at h
  · obtain ⟨h1, h⟩ := h
    rw [if_neg (by simp)] at h ⊢
    exact ⟨h1, h, rfl, [], _, rfl, rfl, by simpa using hy0⟩
  · obtain ⟨h1, h2, h⟩ := h
    rw [if_neg (by simp)] at h ⊢
    refine ⟨h1, h2, h, rfl, _, _, rfl, rfl, fun y hy => ?_⟩
    rcases List.mem_append.1 hy with hy | hy
    · exact h1 y hy
    · rw [List.mem_singleton.1 hy]; exact hy0
  · obtain ⟨h1, h2, h3, h4, h5, h⟩ := h
    refine ⟨h1, h2, h3, h4, h5, h, rfl, _, _, rfl, rfl, fun y hy => ?_⟩
    rcases List.mem_append.1 hy with hy | hy
    · exact h1 y hy
    · rw [List.mem_singleton.1 hy]; exact hy0
  · exact h

theorem run_indexAddr {P : Program} {t e : TypeId} {ei : TypeInfo} {b off n cap : Nat} {k : IntKind} {i : Int} (hu : P.underlying t = some (.slice e)) (hi : P.info? e = some ei) (hn : i = n) {N : Nat} (hN : n < N) (w : World) :
    ((do pure (Next.value (← Instr.indexAt t (.slice (some ⟨b, off, none⟩) N cap) (.int k i))) : Sem Next).run P w) = .ok (.value (.pointer (some ⟨b, off + n * ei.size, none⟩))) w := by
  subst hn
  have h1 : (0 : Int) ≤ n := by omega
  have h2 : (n : Int) < N := by omega
  simp [Instr.indexAt, asIntOf, underlying_run hu, h1, h2, sizeOf_run hi, add_addr]
  intro h; omega

theorem run_storeAt {P : Program} {t : TypeId} {i : TypeInfo} {b off : Nat} {y : Value} (hi : P.info? t = some i) (hs : y.cells.size = i.size) (h1 : ∀ x ∈ y.cells.toList, x.oneCell' = true) {w : World}
    (hc : ∀ j, j < i.size → (w.cell? ⟨b, off + j, none⟩).isSome = true ∧ w.frozen? ⟨b, off + j, none⟩ = false) :
    ((do Instr.storeAt t (.pointer (some ⟨b, off, none⟩)) y; pure Next.skip : Sem Next).run P w) = .ok .skip (w.setCells b off y.cells.toList) := by
  have hst := run_storeCells_cells (P := P) b off y.cells.toList 0 w (fun j hj => by
      have := (hc j (by simpa [hs] using hj)).1
      simpa using this) (fun j hj => by
      have := (hc j (by simpa [hs] using hj)).2
      simpa using this) h1
  rw [Nat.add_zero] at hst
  simp [Instr.storeAt, Instr.sureAddr, storeVar, sizeOf_run hi, hs, hst]

theorem keepEval {a a' : Act} {b8 b9 b10 : Nat} {x : Operand} {y : Opd} (h : ∀ q, q ≠ b8 → q ≠ b9 → q ≠ b10 → a'.tmps.getD q undef = a.tmps.getD q undef) (hc : copd m x = some y) (hq : ∀ q ∈ y.tmps, q ≠ b8 ∧ q ≠ b9 ∧ q ≠ b10) : a'.eval x = a.eval x := by
  cases x with
  | tmp t =>
    simp only [copd] at hc
    split at hc
    · simp only [Option.some.injEq] at hc
      subst hc
      have := hq t (by simp [Opd.tmps])
      exact h t this.1 this.2.1 this.2.2
    · cases hc
  | const v => rfl
  | global g => rfl
  | func f => rfl

theorem wpOp_run {P : Program} {ops : Array Oper} {Q : Exit → Act → World → Prop} {i : Nat} {o : Oper} {next : Act → World → Prop} {a : Act} {w w' : World} {u : Value} (ho : ops[i]? = some o) (hg : o.guard = none)
    (hrun : (execOp a.eval o).run P w = .ok (.value u) w' ∨ ((execOp a.eval o).run P w = .ok .skip w' ∧ u = undef)) (h : next (a.put o.dst u) w') : wpOp P ops Q i next a w := by
  unfold wpOp
  simp only [ho]
  have : Region.wanted o (yielded ops a.tmps) = true := by simp [Region.wanted, hg]
  rw [if_pos this]
  left
  unfold Oper.wp
  rcases hrun with hrun | ⟨hrun, rfl⟩
  · rw [hrun]; exact h
  · rw [hrun]; exact h

theorem tail_any {ops : Array Oper} {k : Nat} {t : VTail} {K : VEx → Fr → St → Prop} (hsz : ops.size = k + 5) (hc : ctailOps X.P m (ops.toList.drop k) = some t) (hed : tailEdges k (ops.toList.drop k) = true)
    {μ₀ : Mem} {w₀ : World} {ds : List Deferred} {Q : Exit → Act → World → Prop} (hQ : ∀ e a' w', KR m μ₀ w₀ ds K e a' w' → Q e a' w')
    (h : tailW K t fr σ) (hrel : Rel μ σ w) (hev0 : Ev μ₀ w₀ μ w) (hfr : FrRel m μ w fr a) (hds : a.defers = ds) (fuel : Nat) (L : Array Bool) (hf : 5 ≤ fuel) (hL : L.size = k + 5) (hl : ∀ i, i < k + 5 → L.getD i false = decide (i < k)) :
    wpAny X.P .any ops Q fuel L a w := by
  have g : ∀ i, ops[k + i]? = (ops.toList.drop k)[i]? := fun i => by simp
  unfold ctailOps at hc
  split at hc
  case h_2 => cases hc
  rename_i d8 args argTypes ty6 p6 af6 d9 t7 a7 n' ty7 p7 af7 t8 a8 v' ty8 p8 af8 d10 s9 s' f ty9 p9 af9 t10 a10 b10 ty10 p10 af10 heq
  rw [heq] at hed g
  have g6 := g 0
  have g7 := g 1
  have g8 := g 2
  have g9 := g 3
  have g10 := g 4
  simp only [List.getElem?_cons_zero, List.getElem?_cons_succ, Nat.add_zero] at g6 g7 g8 g9 g10
  clear g
  split at hc
  case h_2 => cases hc
  rename_i x' y' tt tu hargs htys
  split at hc
  case h_2 => cases hc
  rename_i e e' e7 fs hut hutu hut7 hus9
  simp only [Option.bind_eq_bind, Option.bind_eq_some_iff] at hc
  obtain ⟨ei, hei, z, hz, zv, hzv, e7i, he7i, i8, hi8, fd, hfd, fi, hfi, i10, hi10, x, hx, y, hy, n, hn, v, hv, s, hs, hc⟩ := hc
  split at hc
  case isFalse => cases hc
  rename_i hcond
  obtain ⟨⟨c1, c2, c3, c4, c5, c6, c7⟩, ⟨rfl, rfl, rfl, hb10⟩, ⟨m8, m9, m10, n89, n810, n910⟩, hq⟩ := hcond
  subst hb10
  simp only [Option.some.injEq] at hc
  subst hc
  -- what the end says
  unfold tailW at h
  dsimp only at h
  have hρ := hfr.ops
  have rn := hρ _ _ hn
  have rs := hρ _ _ hs
  have rx := hρ _ _ hx
  have ry := hρ _ _ hy
  have rv := hρ _ _ hv
  split at h
  case h_2 => exact h.elim
  rename_i ik iv o oa hnv hsv
  rw [hnv] at rn
  rw [hsv] at rs
  obtain ⟨hlen, hone, h⟩ := h
  have h := vapp_last h
  have hv0 := (h.1 (v.ev fr) (by simp))
  have ev_n := rn.ofInt
  -- the zeros
  obtain ⟨y0, ytk, hyv, hy0⟩ : ∃ y0 ytk, y.ev fr = .slc true [y0] ytk ∧ y0.cells.length = ei.size := by
    unfold isOneV at hone
    split at hone
    · rename_i y0 tk' hh; exact ⟨y0, tk', hh, hone⟩
    · exact hone.elim
  rw [hyv] at ry
  obtain ⟨yb, yoff, ycap, zs, eyv, hzr, hzat, _, _, _, _⟩ := ry.rowOf (sz := ei.size) (by simpa using hy0) (by intro h; cases h)
  have hzl : zs.length = ei.size := by have := hzr.len; simpa using this
  have hsrc : Src X.P ei.size tu (a.eval y') 1 zs w := by
    rw [eyv]
    exact Src.ofSlice w hutu ⟨yb, yoff, none⟩ 1 ycap zs (by omega) (fun j u hu => by rw [Addr.add_mid]; exact hzat j u hu) hzr.one
  -- what is stored
  have hvc := rv.cells
  have hvl : (a.eval v').cells.toList.length = ei.size := by rw [← hvc.1, hv0.1]
  have hvrow : Row μ w [v.ev fr] ei.size (a.eval v').cells.toList := ⟨by simpa using hv0.1, by simpa using hvl, rv.cellsOne hv0.2, fun i hi j hj => by
    simp only [List.length_cons, List.length_nil] at hi
    obtain rfl : i = 0 := by omega
    have := hvc.2 j (by rw [hv0.1]; exact hj)
    simpa using this⟩
  have hzs : z.cells.size = ei.size := by
    have := (cval_sound (μ := μ) (w := w) hzv).cells.1
    rw [c1] at this
    simpa using this.symm
  obtain ⟨F, off, cap, n8, b, μ', v8, σ', hlays, hn8, hev, hrel', hv8, ⟨hK, hobjs, xs, tk, rfl, hxl, hsz8⟩, hnb⟩ := append_lays (t := tt) (tx := tu) (ty := ty6) hut hei hz hzs c2 rx hvrow hrel h
  unfold tailEnd at hK
  dsimp only at hK
  split at hK
  case h_2 => exact hK.elim
  rename_i cs hcs
  obtain ⟨hroom, hK⟩ := hK
  have hon : o < μ.n := by rw [hrel.n, ← hobjs]; exact (List.getElem?_eq_some_iff.1 hcs).1
  have hob : μ'.ob o = μ.ob o := hev.ob o hon
  have hon' : o < μ'.n := Nat.lt_of_lt_of_le hon hev.n
  have hobb : μ.ob o ≠ b := by rw [← hob]; exact hnb o hon'
  have ev_s : a.eval s' = .pointer (some ⟨μ.ob o, oa, none⟩) := by
    generalize a.eval s' = us at rs
    cases rs
    rfl
  have hiv : iv = n8 := by
    unfold isLenV at hlen
    unfold lenIs at hn8
    split at hlen
    · rename_i hh; rw [hh] at hn8; simp only at hn8; omega
    · rename_i hh; rw [hh] at hn8; simp only at hn8; omega
    · exact hlen.elim
  have hxn : xs.length = n8 := by
    unfold lenIs at hn8 hxl
    split at hn8
    · rename_i hh; rw [hh] at hxl; simp only at hxl; omega
    · rename_i hh
      split at hxl
      · rename_i hh'; exact absurd hh' (by intro h; exact hh _ _ h)
      · omega
  have hcells : a.eval v' = a.eval v' := rfl
  generalize hu8 : Value.slice (some ⟨b, off, none⟩) (n8 + 1) cap = u8 at hlays hv8
  generalize hvs : (a.eval v').cells.toList = vs at hvl hvrow hev hrel' hv8
  have hone8 : u8.oneCell' = true := by rw [← hu8]; rfl
  have hc8 : u8.cells.toList = [u8] := by rw [← hu8]; rfl
  obtain ⟨hb1, hb2, hb3, us, hus, hat, hfz, _⟩ := hrel'.obj o cs hcs
  rw [hob] at hat hfz
  -- the object's cell, whichever the element
  have hFF : (F zs).setCells b (off + n8 * ei.size) vs = F vs := hlays.again zs vs hzl hvl
  have hheap : (F zs).heap[μ.ob o]? = (F vs).heap[μ.ob o]? := by rw [← hFF, setCells_heap, if_neg hobb]
  have hocell : ∀ W : World, W.heap[μ.ob o]? = (F vs).heap[μ.ob o]? → ∀ j, j < 1 → (W.cell? ⟨μ.ob o, oa + fd.offset + j, none⟩).isSome = true ∧ W.frozen? ⟨μ.ob o, oa + fd.offset + j, none⟩ = false := by
    intro W hW j hj
    obtain rfl : j = 0 := by omega
    have hlt : oa + fd.offset < us.length := by rw [← hus.1]; omega
    have h1 := hat _ _ (List.getElem?_eq_getElem hlt)
    rw [Nat.zero_add] at h1
    refine ⟨?_, ?_⟩
    · have : W.cell? ⟨μ.ob o, oa + fd.offset + 0, none⟩ = (F vs).cell? ⟨μ.ob o, oa + fd.offset + 0, none⟩ := by simp only [World.cell?, hW]
      rw [this, Nat.add_zero, h1]; rfl
    · have : W.frozen? ⟨μ.ob o, oa + fd.offset + 0, none⟩ = (F vs).frozen? ⟨μ.ob o, oa + fd.offset + 0, none⟩ := by simp only [World.frozen?, hW]
      rw [this]; exact hfz _
  generalize hp9 : Value.pointer (some ⟨b, off + n8 * ei.size, none⟩) = p9
  generalize hp10 : Value.pointer (some ⟨μ.ob o, oa + fd.offset, none⟩) = p10
  let base : Nat → World := fun e => if 2 ≤ e then F vs else F zs
  let wf : Nat → Nat → World := fun e s => if 2 ≤ s then (base e).setCells (μ.ob o) (oa + fd.offset) [u8] else base e
  let S : Nat → Nat → Act → World → Prop := fun e s a' w' => a'.defers = ds ∧ a'.tmps.size = m ∧ (∀ q, q ≠ a8 → q ≠ a10 → a'.tmps.getD q undef = (a.put (some b10) u8).tmps.getD q undef) ∧ (1 ≤ e → a'.tmps.getD a8 undef = p9) ∧ (1 ≤ s → a'.tmps.getD a10 undef = p10) ∧ w' = wf e s
  have hput : ∀ (A : Act) (d : Nat) (u : Value) (q : Nat), A.tmps.size = m → d < m → (A.put (some d) u).tmps.getD q undef = if q = d then u else A.tmps.getD q undef := by
    intro A d u q hA hd
    simp only [Act.put]
    by_cases e : q = d
    · subst e; simp [hA, hd]
    · rw [if_neg e]; simp [Array.getElem?_setIfInBounds_ne (Ne.symm e)]
  have hputs : ∀ (A : Act) (d : Nat) (u : Value), (A.put (some d) u).tmps.size = A.tmps.size := fun A d u => by simp [Act.put]
  have keep : ∀ (e s : Nat) (a' : Act) (w' : World), S e s a' w' → ∀ q, q ≠ b10 → q ≠ a8 → q ≠ a10 → a'.tmps.getD q undef = a.tmps.getD q undef := by
    intro e s a' w' hS q h1 h2 h3
    rw [hS.2.2.1 q h2 h3, hput a b10 u8 q hfr.size m8, if_neg h1]
  have at8 : ∀ (e s : Nat) (a' : Act) (w' : World), S e s a' w' → a'.eval (.tmp b10) = u8 := by
    intro e s a' w' hS
    show a'.tmps.getD b10 undef = u8
    rw [hS.2.2.1 b10 n89 n810, hput a b10 u8 b10 hfr.size m8, if_pos rfl]
  simp only [tailEdges, Bool.and_eq_true] at hed
  obtain ⟨⟨⟨⟨⟨⟨⟨⟨e6, eall⟩, e8⟩, e10⟩, i6⟩, i7⟩, i8'⟩, i9⟩, i10'⟩ := hed
  obtain ⟨f, rfl⟩ : ∃ f, fuel = f + 1 := ⟨fuel - 1, by omega⟩
  -- the append comes first
  have getO : ∀ {i : Nat} {o₁ o₂ : Oper}, ops[i]? = some o₁ → ops[i]? = some o₂ → o₁ = o₂ := fun h1 h2 => by rw [h1] at h2; exact Option.some.inj h2
  have allk := fun j (hj : j < k + 1) => (List.all_eq_true.1 eall) j (List.mem_range.2 hj)
  have first : ∀ i, i ∈ Region.ready .any ops L → i = k := by
    intro i hi
    obtain ⟨h1, oo, ho, hall⟩ := mem_ready.1 hi
    have hlt : i < k + 5 := by have := (Array.getElem?_eq_some_iff.1 ho).1; omega
    rw [getD_true_false (by omega), hl i hlt] at h1
    simp only [decide_eq_false_iff_not] at h1
    apply Classical.byContradiction
    intro hne
    have hto : edgesTo oo k = true := by
      have ak := allk k (by omega)
      simp only [Bool.and_eq_true] at ak
      rcases (show i = k + 1 ∨ i = k + 2 ∨ i = k + 3 ∨ i = k + 4 by omega) with rfl | rfl | rfl | rfl
      · rw [getO ho g7]; exact ak.1.1.1
      · rw [getO ho g8]; exact ak.1.1.2
      · rw [getO ho g9]; exact ak.1.2
      · rw [getO ho g10]; exact ak.2
    obtain ⟨ed, hed, hb, hon⟩ := edgesTo_mem hto
    have := hall ed hed hb
    rw [hon, hl k (by omega)] at this
    simp at this
  refine ⟨fun hr => ?_, fun i hi => ?_⟩
  · exfalso
    have : k ∈ Region.ready .any ops L := mem_ready.2 ⟨by rw [getD_true_false (by omega), hl k (by omega)]; simp, _, g6, fun ed hed hb => by
      have := edgesIn_mem i6 ed hed hb
      have hlt := Nat.le_of_ble_eq_true this
      rw [hl _ (by omega)]
      exact decide_eq_true (Nat.lt_of_succ_le hlt)⟩
    rw [hr] at this
    cases this
  obtain rfl := first i hi
  refine wpOp_run (u := u8) (w' := F zs) g6 rfl (.inl ?_) ?_
  · have e1 : args = #[x', y'] := by apply Array.ext'; simpa using hargs
    have e2 : argTypes = #[tt, tu] := by apply Array.ext'; simpa using htys
    subst e1 e2
    have := hlays.run _ zs hsrc hzl
    have e3 : execOp a.eval ⟨some b10, .call ⟨.builtin .append, #[x', y'], #[tt, tu]⟩, ty6, p6, af6, none⟩ = (do pure (Next.value (← Builtin.append_ #[tt, tu] ty6 #[a.eval x', a.eval y']))) := by
      simp only [execOp, resolve, pure_bind, invoke, builtin, List.map_toArray, List.map_cons, List.map_nil]
    rw [e3]
    exact appRun this
  refine chains S hsz ?_ ?_ ?_ (fun oo ho => ?_) (fun oo ho => ?_) (fun oo ho ed hed hb => ?_) (fun oo ho ed hed hb => ?_) (fun oo ho ed hed hb => ?_) (fun oo ho ed hed hb => ?_) f 0 0 _ _ _ (by omega) (by omega) (by omega) (by simp [hL]) ?_ ?_
  · -- the element
    intro e s a' w' next he hs' hS hn'
    obtain ⟨q1, q2, q3, q4, q5, q6⟩ := id hS
    rcases (show e = 0 ∨ e = 1 by omega) with rfl | rfl
    · refine wpOp_run (u := p9) (w' := w') g7 rfl (.inl ?_) (hn' _ _ ⟨?_, ?_, ?_, ?_, ?_, ?_⟩)
      · have e1 : a'.eval (.tmp b10) = u8 := at8 _ _ _ _ hS
        have e2 : a'.eval n' = .int ik iv := by
          rw [keepEval (keep _ _ _ _ hS) hn (fun q hq' => hq q (by simp [hq'])), ev_n]
        have := run_indexAddr (k := ik) (i := iv) (b := b) (off := off) (n := n8) (cap := cap) (N := n8 + 1) hut7 he7i hiv (by omega) w'
        rw [hu8, c4, hp9] at this
        simp only [execOp, e1, e2]
        exact this
      · rw [put_defers]; exact q1
      · rw [hputs]; exact q2
      · intro q h1 h2
        rw [hput a' a8 p9 q q2 m9, if_neg h1]
        exact q3 q h1 h2
      · intro _
        rw [hput a' a8 p9 a8 q2 m9, if_pos rfl]
      · intro h1
        rw [hput a' a8 p9 a10 q2 m9, if_neg (Ne.symm n910)]
        exact q5 h1
      · rw [q6]; rfl
    · have hthere : ∀ j, j < ei.size → (w'.cell? ⟨b, off + n8 * ei.size + j, none⟩).isSome = true ∧ w'.frozen? ⟨b, off + n8 * ei.size + j, none⟩ = false := fun j hj => by
        obtain ⟨t1, t2⟩ := hlays.there zs j hzl hj
        rw [q6]
        show ((if 2 ≤ s then (F zs).setCells (μ.ob o) (oa + fd.offset) [u8] else F zs).cell? _).isSome = true ∧ _
        have hw0 : wf 1 s = (if 2 ≤ s then (F zs).setCells (μ.ob o) (oa + fd.offset) [u8] else F zs) := rfl
        rw [hw0]
        split
        · exact ⟨World.isSome_setCells _ _ _ _ _ t1, by rw [World.frozen?_setCells]; exact t2⟩
        · exact ⟨t1, t2⟩
      refine wpOp_run (u := undef) (w' := w'.setCells b (off + n8 * ei.size) vs) g8 rfl (.inr ⟨?_, rfl⟩) (hn' _ _ ⟨?_, ?_, ?_, ?_, ?_, ?_⟩)
      · have e1 : a'.eval (.tmp a8) = .pointer (some ⟨b, off + n8 * ei.size, none⟩) := by rw [hp9]; exact q4 (by omega)
        have e2 : a'.eval v' = a.eval v' := keepEval (keep _ _ _ _ hS) hv (fun q hq' => hq q (by simp [hq']))
        have := run_storeAt (P := X.P) (y := a.eval v') (b := b) (off := off + n8 * ei.size) (w := w') hi8 (by rw [c5, ← hvl, ← hvs]; simp) (rv.cellsOne hv0.2) (by rw [c5]; exact hthere)
        simp only [execOp, e1, e2]
        rw [← hvs]
        exact this
      · exact q1
      · exact q2
      · exact q3
      · exact fun _ => q4 (by omega)
      · exact q5
      · rw [q6]
        show (if 2 ≤ s then (F zs).setCells (μ.ob o) (oa + fd.offset) [u8] else F zs).setCells b (off + n8 * ei.size) vs = if 2 ≤ s then (F vs).setCells (μ.ob o) (oa + fd.offset) [u8] else F vs
        split
        · rw [setCells_comm hobb, hFF]
        · exact hFF
  · -- the field
    intro e s a' w' next he hs' hS hn'
    obtain ⟨q1, q2, q3, q4, q5, q6⟩ := id hS
    rcases (show s = 0 ∨ s = 1 by omega) with rfl | rfl
    · refine wpOp_run (u := p10) (w' := w') g9 rfl (.inl ?_) (hn' _ _ ⟨?_, ?_, ?_, ?_, ?_, ?_⟩)
      · have e2 : a'.eval s' = .pointer (some ⟨μ.ob o, oa, none⟩) := by
          rw [keepEval (keep _ _ _ _ hS) hs (fun q hq' => hq q (by simp [hq'])), ev_s]
        simp only [execOp, e2]
        rw [← hp10]
        simp [Instr.fieldAt, underlying_run hus9, hfd, Instr.sureAddr, fieldPlace, sizeOf_run hfi, c6, add_addr]
      · rw [put_defers]; exact q1
      · rw [hputs]; exact q2
      · intro q h1 h2
        rw [hput a' a10 p10 q q2 m10, if_neg h2]
        exact q3 q h1 h2
      · intro h1
        rw [hput a' a10 p10 a8 q2 m10, if_neg n910]
        exact q4 h1
      · intro _
        rw [hput a' a10 p10 a10 q2 m10, if_pos rfl]
      · rw [q6]; rfl
    · have hW : w'.heap[μ.ob o]? = (F vs).heap[μ.ob o]? := by
        rw [q6]
        show (base e).heap[μ.ob o]? = _
        by_cases h2 : 2 ≤ e
        · simp only [base, if_pos h2]
        · simp only [base, if_neg h2]; exact hheap
      refine wpOp_run (u := undef) (w' := w'.setCells (μ.ob o) (oa + fd.offset) [u8]) g10 rfl (.inr ⟨?_, rfl⟩) (hn' _ _ ⟨?_, ?_, ?_, ?_, ?_, ?_⟩)
      · have e1 : a'.eval (.tmp a10) = .pointer (some ⟨μ.ob o, oa + fd.offset, none⟩) := by rw [hp10]; exact q5 (by omega)
        have e2 : a'.eval (.tmp b10) = u8 := at8 _ _ _ _ hS
        have := run_storeAt (P := X.P) (y := u8) (b := μ.ob o) (off := oa + fd.offset) (w := w') hi10 (by rw [c7, ← hu8]; rfl) (by rw [hc8]; simpa using hone8) (by rw [c7]; exact hocell w' hW)
        simp only [execOp, e1, e2]
        rw [hc8] at this
        exact this
      · exact q1
      · exact q2
      · exact q3
      · exact q4
      · exact fun _ => q5 (by omega)
      · rw [q6]; rfl
  · -- all has come up
    intro a' w' hS
    obtain ⟨q1, q2, q3, q4, q5, q6⟩ := id hS
    have hw' : w' = (F vs).setCells (μ'.ob o) (oa + fd.offset) [u8] := by rw [q6, hob]; rfl
    have hvs1 : RVs μ' (F vs) [V.slc true (xs ++ [v.ev fr]) tk] [u8] := ⟨rfl, fun i hi => by
      simp only [List.length_cons, List.length_nil] at hi
      obtain rfl : i = 0 := by omega
      exact hv8⟩
    obtain ⟨hrel2, hev2⟩ := hrel'.write (off := oa + fd.offset) hcs hvs1 (by simpa using hone8) (by simpa using hroom)
    rw [← hw'] at hrel2 hev2
    refine hQ _ _ _ ⟨.norm, _, _, μ', hK, (hev0.trans hev).trans hev2, hrel2, ?_, q1, rfl⟩
    have hfr2 := hfr.mono (hev.trans hev2)
    refine ⟨q2, fun q hq' => ?_⟩
    simp only [upd]
    by_cases h10 : q = a10
    · subst h10
      rw [if_pos rfl, q5 (by omega), ← hp10, ← hob]
      exact .ref o _ hon'
    rw [if_neg h10]
    by_cases h8 : q = a8
    · subst h8
      rw [if_pos rfl, q4 (by omega), ← hp9]
      refine RV.mono hev2 ?_
      rw [← hu8] at hv8
      obtain ⟨b', off', cap', us8, eu, hr8, hat8, hpr8, _, _, _⟩ := hv8.rowOf hsz8 (by simp)
      simp only [Value.slice.injEq, Option.some.injEq, Addr.mk.injEq] at eu
      obtain ⟨⟨rfl, rfl, _⟩, _, _⟩ := eu
      have := (elem_at hr8.len hat8 hpr8 hr8.one hr8.size hr8.el (n := n8) (by simp [hxn])).1
      have e : (xs ++ [v.ev fr]).getD n8 .und = v.ev fr := by
        rw [← hxn]; simp
      rw [e] at this
      exact this
    rw [if_neg h8, q3 q h8 h10, hput a b10 u8 q hfr.size m8]
    by_cases hb : q = b10
    · rw [if_pos hb, if_pos hb]
      exact hv8.mono hev2
    · rw [if_neg hb, if_neg hb]
      exact hfr2.rel q hq'
  · rw [getO ho g8]; exact edgesTo_mem e8
  · rw [getO ho g10]; exact edgesTo_mem e10
  · rw [getO ho g7] at hed; exact Nat.le_of_ble_eq_true (edgesIn_mem i7 ed hed hb)
  · rw [getO ho g8] at hed; exact Nat.le_of_ble_eq_true (edgesIn_mem i8' ed hed hb)
  · rw [getO ho g9] at hed; exact Nat.le_of_ble_eq_true (edgesIn_mem i9 ed hed hb)
  · rw [getO ho g10] at hed
    have := edgesIn_mem i10' ed hed hb
    simp only [Bool.or_eq_true] at this
    exact this.imp Nat.le_of_ble_eq_true Nat.eq_of_beq_eq_true
  · intro j hj
    by_cases e : j = i
    · subst e; simp [hL]
    · rw [getD_set_ne false (Ne.symm e), hl j hj, Bool.eq_iff_iff]
      simp only [Bool.or_eq_true, Bool.and_eq_true, decide_eq_true_eq]
      omega
  · exact ⟨by rw [put_defers]; exact hds, by rw [hputs]; exact hfr.size, fun _ _ _ => rfl, fun h => by omega, fun h => by omega, rfl⟩

theorem wp_mono2 {P : Program} {o : Oper} {a : Act} {w : World} {N N' : Act → World → Prop} {Q Q' : Exit → Act → World → Prop} (hn : ∀ a w, N a w → N' a w) (hq : ∀ e a w, e ≠ .normal → Q' e a w → Q e a w) (hh : o.wp P a w N Q') : o.wp P a w N' Q := by
  unfold Oper.wp at *
  generalize (execOp a.eval o).run P w = r at *
  cases r with
  | ok n w' =>
    cases n <;> simp only [Oper.upon] at hh ⊢ <;>
      first
        | exact hn _ _ hh
        | exact Calls.mono hh (fun e w'' he => by
            cases e with
            | returned v => exact hn _ _ he
            | panicked c => exact hq _ _ _ (by simp) he
            | outgrown => obtain ⟨a', w3, h3⟩ := he; exact ⟨a', w3, hq _ _ _ (by simp) h3⟩)
        | exact Rows.mono hh (fun _ _ he => hn _ _ he)
  | halt x w' =>
    cases x <;> simp only [Oper.upon] at hh ⊢ <;> first | exact hq _ _ _ (by simp) hh | exact hh

/-- The operations ahead of the end come up first. -/
theorem head_any {P : Program} {ops hops : Array Oper} {k : Nat} {Q Q' : Exit → Act → World → Prop} (hk : k ≤ ops.size) (hh : hops.toList = ops.toList.take k)
    (sep : ∀ i o, k ≤ i → ops[i]? = some o → ∀ j, j < k → ∃ e ∈ o.after, Region.binds .any e = true ∧ e.on = j) (back : ∀ i o, i < k → ops[i]? = some o → ∀ e ∈ o.after, Region.binds .any e = true → e.on < i)
    (guards : ∀ i o, i < k → ops[i]? = some o → ∀ j want, o.guard = some (j, want) → j < k) (hQ : ∀ e a w, e ≠ .normal → Q' e a w → Q e a w)
    (tail : ∀ g L a w, ops.size - k ≤ g → L.size = ops.size → (∀ i, i < ops.size → L.getD i false = decide (i < k)) → Q' .normal a w → wpAny P .any ops Q g L a w) :
    ∀ (f : Nat) (LH L : Array Bool) (a : Act) (w : World), LH.size = k → L.size = ops.size → (∀ i, i < k → L.getD i false = LH.getD i false) → (∀ i, k ≤ i → i < ops.size → L.getD i false = false) →
      wpAny P .any hops Q' f LH a w → wpAny P .any ops Q (f + (ops.size - k)) L a w := by
  have hsame : ∀ i, i < k → hops[i]? = ops[i]? := fun i hi => by
    have : hops.toList[i]? = ops.toList[i]? := by rw [hh, List.getElem?_take, if_pos hi]
    simpa using this
  have hsize : hops.size = k := by
    have : hops.toList.length = k := by rw [hh, List.length_take]; simp; omega
    simpa using this
  have least : ∀ (LH : Array Bool), ¬ (∀ i, i < k → LH.getD i false = true) → ∃ i, i < k ∧ LH.getD i false = false ∧ ∀ j, j < i → LH.getD j false = true := by
    intro LH h
    have : ∃ i, i < k ∧ LH.getD i false = false := by
      apply Classical.byContradiction
      intro hn
      exact h fun i hi => by
        cases hb : LH.getD i false with
        | true => rfl
        | false => exact absurd ⟨i, hi, hb⟩ hn
    obtain ⟨i, hi, hb⟩ := this
    induction i using Nat.strongRecOn with
    | _ i ih =>
      by_cases hex : ∃ j, j < i ∧ LH.getD j false = false
      · obtain ⟨j, hj, hjb⟩ := hex
        exact ih j hj (by omega) hjb
      · exact ⟨i, hi, hb, fun j hj => by
          cases hb : LH.getD j false with
          | true => rfl
          | false => exact absurd ⟨j, hj, hb⟩ hex⟩
  intro f
  induction f with
  | zero =>
    intro LH L a w hLH hL h1 h2 h
    by_cases hall : ∀ i, i < k → LH.getD i false = true
    · refine tail _ L a w (by omega) hL (fun i hi => ?_) h.2
      by_cases hik : i < k
      · rw [h1 i hik, hall i hik]; simp [hik]
      · rw [h2 i (by omega) hi]; simp [hik]
    · exfalso
      obtain ⟨i, hi, hb, hj⟩ := least LH hall
      have ho : ops[i]? = some ops[i] := Array.getElem?_eq_getElem (by omega)
      have : i ∈ Region.ready .any hops LH := mem_ready.2 ⟨by rw [getD_true_false (by omega)]; exact hb, _, by rw [hsame i hi]; exact ho, fun e he hbe => hj _ (back i _ hi ho e he hbe)⟩
      rw [h.1] at this
      cases this
  | succ f ih =>
    intro LH L a w hLH hL h1 h2 h
    by_cases hall : ∀ i, i < k → LH.getD i false = true
    · refine tail _ L a w (by omega) hL (fun i hi => ?_) (h.1 ?_)
      · by_cases hik : i < k
        · rw [h1 i hik, hall i hik]; simp [hik]
        · rw [h2 i (by omega) hi]; simp [hik]
      · cases hr : Region.ready .any hops LH with
        | nil => rfl
        | cons i r =>
          have hm : i ∈ Region.ready .any hops LH := by rw [hr]; exact List.mem_cons_self
          obtain ⟨g1, o, g2, _⟩ := mem_ready.1 hm
          have hik : i < k := by have := (Array.getElem?_eq_some_iff.1 g2).1; omega
          rw [getD_true_false (by omega), hall i hik] at g1
          cases g1
    · obtain ⟨i0, hi0, hb0, hj0⟩ := least LH hall
      have ho0 : ops[i0]? = some ops[i0] := Array.getElem?_eq_getElem (by omega)
      rw [show f + 1 + (ops.size - k) = (f + (ops.size - k)) + 1 by omega]
      refine ⟨fun hr => ?_, fun i hi => ?_⟩
      · exfalso
        have : i0 ∈ Region.ready .any ops L := mem_ready.2 ⟨by rw [getD_true_false (by omega), h1 i0 hi0]; exact hb0, _, ho0, fun e he hbe => by
          have hlt := back i0 _ hi0 ho0 e he hbe
          rw [h1 _ (by omega)]; exact hj0 _ hlt⟩
        rw [hr] at this
        cases this
      · obtain ⟨g1, o, ho, g2⟩ := mem_ready.1 hi
        have hin : i < ops.size := (Array.getElem?_eq_some_iff.1 ho).1
        have hik : i < k := by
          apply Classical.byContradiction
          intro hge
          obtain ⟨e, he, hbe, hon⟩ := sep i o (by omega) ho i0 hi0
          have := g2 e he hbe
          rw [hon, h1 i0 hi0, hb0] at this
          cases this
        rw [getD_true_false (by omega), h1 i hik] at g1
        have hrH : i ∈ Region.ready .any hops LH := mem_ready.2 ⟨by rw [getD_true_false (by omega)]; exact g1, o, by rw [hsame i hik]; exact ho, fun e he hbe => by
          have hlt := back i o hik ho e he hbe
          have := g2 e he hbe
          rwa [h1 _ (by omega)] at this⟩
        have hw := h.2 i hrH
        unfold wpOp at hw ⊢
        simp only [hsame i hik, ho] at hw ⊢
        have hwant : Region.wanted o (yielded hops a.tmps) = Region.wanted o (yielded ops a.tmps) := by
          unfold Region.wanted
          cases hg : o.guard with
          | none => rfl
          | some jw =>
            obtain ⟨j, want⟩ := jw
            have := guards i o hik ho j want hg
            simp only [yielded, hsame j this]
        rw [hwant] at hw
        have step : ∀ a' w', wpAny P .any hops Q' f (LH.setIfInBounds i true) a' w' → wpAny P .any ops Q (f + (ops.size - k)) (L.setIfInBounds i true) a' w' := fun a' w' h' => by
          refine ih _ _ a' w' (by simp [hLH]) (by simp [hL]) (fun j hj => ?_) (fun j hj hj' => ?_) h'
          · by_cases e : j = i
            · subst e; simp [hL, hLH, hj, hin]
            · rw [getD_set_ne false (Ne.symm e), getD_set_ne false (Ne.symm e)]; exact h1 j hj
          · rw [getD_set_ne false (by omega)]; exact h2 j hj hj'
        split
        · rename_i hwt
          rw [if_pos hwt] at hw
          rcases hw with hw | ⟨hw1, a', w', hw2⟩
          · exact .inl (wp_mono2 step hQ hw)
          · exact .inr ⟨hw1, a', w', hQ _ _ _ (by simp) hw2⟩
        · rename_i hwt
          rw [if_neg hwt] at hw
          exact step _ _ hw

/-- A region that ends so, read. -/
def ctail (P : Program) (m : Nat) (ops : Array Oper) : Option VCode :=
  let k := ops.size - 5
  let l := ops.toList.take k
  match ctailOps P m (ops.toList.drop k) with
  | some t => if Nat.ble 5 ops.size && tailEdges k (ops.toList.drop k) then do
      let its ← citems P m l.toArray l
      let vd ← cdraw l its
      some (.seq (.draw vd) (.tail t))
    else none
  | none => none

theorem tailEdges_sep {k : Nat} : ∀ {l : List Oper} {i : Nat} {o : Oper} {j : Nat}, tailEdges k l = true → l[i]? = some o → j < k → edgesTo o j = true
  | [o6, o7, o8, o9, o10], i, o, j, hed, hio, hj => by
    simp only [tailEdges, Bool.and_eq_true] at hed
    have a6 := (List.all_eq_true.1 hed.1.1.1.1.1.1.1.1) j (List.mem_range.2 hj)
    have ak := (List.all_eq_true.1 hed.1.1.1.1.1.1.1.2) j (List.mem_range.2 (by omega))
    simp only [Bool.and_eq_true] at ak
    match i, hio with
    | 0, h => cases h; exact a6
    | 1, h => cases h; exact ak.1.1.1
    | 2, h => cases h; exact ak.1.1.2
    | 3, h => cases h; exact ak.1.2
    | 4, h => cases h; exact ak.2
    | i + 5, h => simp at h
  | [], _, _, _, hed, _, _ => by simp [tailEdges] at hed
  | [_], _, _, _, hed, _, _ => by simp [tailEdges] at hed
  | [_, _], _, _, _, hed, _, _ => by simp [tailEdges] at hed
  | [_, _, _], _, _, _, hed, _, _ => by simp [tailEdges] at hed
  | [_, _, _, _], _, _, _, hed, _, _ => by simp [tailEdges] at hed
  | _ :: _ :: _ :: _ :: _ :: _ :: _, _, _, _, hed, _, _ => by simp [tailEdges] at hed

theorem ctail_sound (hm : X.P.follows .mixedOrders = true) {ops : Array Oper} {id : Nat} {vc : VCode} {K : VEx → Fr → St → Prop} (hc : ctail X.P m ops = some vc) (h : W X vc K fr σ) (hG : μ.G = X.G) (hrel : Rel μ σ w) (hfr : FrRel m μ w fr a) :
    (Code.region id ops true).wp X.P (KR m μ w a.defers K) a w := by
  unfold ctail at hc
  dsimp only at hc
  split at hc
  case h_2 => cases hc
  rename_i t ht
  split at hc
  case isFalse => cases hc
  rename_i hcond
  simp only [Bool.and_eq_true] at hcond
  obtain ⟨h5, hed⟩ := hcond
  have h5 := Nat.le_of_ble_eq_true h5
  simp only [Option.bind_eq_bind, Option.bind_eq_some_iff, Option.some.injEq] at hc
  obtain ⟨its, hits, vd, hvd, rfl⟩ := hc
  generalize hk : ops.size - 5 = k at ht hed hits hvd
  have hsz : ops.size = k + 5 := by omega
  have hD : Dit X (seqK (tailW K t) K) vd fr σ := h
  have hl : (ops.toList.take k).length = k := by rw [List.length_take]; simp; omega
  have hdr : drawOk (ops.toList.take k) its = true := by
    unfold cdraw at hvd
    split at hvd
    · rename_i h; exact h
    · cases hvd
  have hF := drawFacts hdr
  have hget : ∀ i o, i < k → ops[i]? = some o → (ops.toList.take k)[i]? = some o := fun i o hi ho => by
    rw [List.getElem?_take, if_pos hi]; simpa using ho
  refine wp_region_any hm ?_
  have hhead := draw_wpAny (ops := (ops.toList.take k).toArray) (K := seqK (tailW K t) K) (vd := vd) (its := its) (by simpa using hvd) (by simpa using hits) hD hG hrel hfr
    (Q := fun e a' w' => match e with
      | .normal => ∃ fr' σ' μ', tailW K t fr' σ' ∧ Ev μ w μ' w' ∧ Rel μ' σ' w' ∧ FrRel m μ' w' fr' a' ∧ a'.defers = a.defers
      | e => KR m μ w a.defers K e a' w') (by
      rintro e a' w' ⟨ve, fr', σ', μ', hk, hev, hrel', hfr', hds, her⟩
      cases ve with
      | norm => cases her; exact ⟨fr', σ', μ', hk, hev, hrel', hfr', hds⟩
      | exit i => cases her; exact ⟨_, fr', σ', μ', hk, hev, hrel', hfr', hds, rfl⟩
      | ret => cases her; exact ⟨_, fr', σ', μ', hk, hev, hrel', hfr', hds, rfl⟩
      | pan v => obtain ⟨u, hu, rfl⟩ := her; exact ⟨_, fr', σ', μ', hk, hev, hrel', hfr', hds, u, hu, rfl⟩)
  have hall := head_any (P := X.P) (ops := ops) (hops := (ops.toList.take k).toArray) (k := k) (Q := KR m μ w a.defers K) (by omega) (by simp) ?_ ?_ ?_ ?_ ?_ _ _ (Array.replicate ops.size false) a w.drew ?_ ?_ ?_ ?_ hhead
  · have e : (ops.toList.take k).toArray.size + (ops.size - k) = ops.size := by simp [hsz]
    rw [e] at hall
    exact hall
  · -- the end waits for what is ahead
    intro i o hi ho j hj
    have hd5 : (ops.toList.drop k).length = 5 := by rw [List.length_drop]; simp; omega
    have hio : (ops.toList.drop k)[i - k]? = some o := by
      rw [List.getElem?_drop, show k + (i - k) = i by omega]; simpa using ho
    exact edgesTo_mem (tailEdges_sep hed hio hj)
  · intro i o hi ho e he hb
    exact hF.back i o (hget i o hi ho) e (by simpa using he) hb
  · intro i o hi ho j want hg
    obtain ⟨it, hit, hci⟩ := actual_citem hits i o (hget i o hi ho)
    simp only [citem, Option.bind_eq_bind, Option.bind_eq_some_iff] at hci
    obtain ⟨g, hgg, _⟩ := hci
    rw [hg] at hgg
    simp only [cguard] at hgg
    split at hgg
    · rename_i t ht'
      simp only [Option.bind_eq_some_iff] at ht'
      obtain ⟨o', ho', _⟩ := ht'
      have := (Array.getElem?_eq_some_iff.1 ho').1
      simpa [hl] using this
    · cases hgg
  · intro e a' w' hne hq
    cases e with
    | normal => exact absurd rfl hne
    | _ => exact hq
  · intro g L a' w' hg hL hLi hq
    obtain ⟨fr', σ', μ', ht', hev', hrel', hfr', hds'⟩ := hq
    exact tail_any hsz ht hed (fun _ _ _ h => h) ht' hrel' hev' hfr' hds' g L (by omega) (by omega) (fun i hi => hLi i (by omega))
  · simp [hl]
  · simp
  · intro i hi
    have e1 : ∀ n, (Array.replicate n false).getD i false = false := fun n => by
      simp [Array.getElem?_replicate]; split <;> rfl
    rw [e1, e1]
  · intro i _ _
    simp [Array.getElem?_replicate]; split <;> rfl
end
end Go.Vs

namespace Go.Vs

theorem Tk.fits_mono {k k' : Nat} (hk : k ≤ k') (t : Tk) (h : t.fits k = true) : t.fits k' = true := by
  cases t <;> simp_all [Tk.fits] <;> omega

mutual
theorem fits_mono {n n' nm nm' k k' : Nat} (hn : n ≤ n') (hm : nm ≤ nm') (hk : k ≤ k') : ∀ (v : V), v.fits n nm k = true → v.fits n' nm' k' = true
  | .agg cs, h => fitsL_mono hn hm hk cs h
  | .tup cs, h => fitsL_mono hn hm hk cs h
  | .slc _ xs tk, h => by
    simp only [V.fits, Bool.and_eq_true] at h ⊢
    exact ⟨fitsL_mono hn hm hk xs h.1, tk.fits_mono hk h.2⟩
  | .ref none, _ => rfl
  | .ref (some (o, _)), h => by simp only [V.fits, decide_eq_true_eq] at h ⊢; omega
  | .eptr cs, h => fitsL_mono hn hm hk cs h
  | .sptr cs _, h => fitsL_mono hn hm hk cs h
  | .iface _ v, h => fits_mono hn hm hk v h
  | .fn _ fs cs, h => by
    simp only [V.fits, Bool.and_eq_true] at h ⊢
    exact ⟨fitsL_mono hn hm hk fs h.1, fitsL_mono hn hm hk cs h.2⟩
  | .mp none, _ => rfl
  | .mp (some r), h => by simp only [V.fits, decide_eq_true_eq] at h ⊢; omega
  | .bool _, _ => rfl
  | .int _ _, _ => rfl
  | .str _, _ => rfl
  | .gref _ _, _ => rfl
  | .nilI, _ => rfl
  | .nilF, _ => rfl
theorem fitsL_mono {n n' nm nm' k k' : Nat} (hn : n ≤ n') (hm : nm ≤ nm') (hk : k ≤ k') : ∀ (l : List V), fitsL n nm k l = true → fitsL n' nm' k' l = true
  | [], _ => rfl
  | v :: r, h => by
    simp only [fitsL, Bool.and_eq_true] at h ⊢
    exact ⟨fits_mono hn hm hk v h.1, fitsL_mono hn hm hk r h.2⟩
end

def Out.clean (k : Nat) : Out → Out
  | .ret v => .ret (v.clean k)
  | .pan v => .pan (v.clean k)
def Out.fits (n nm k : Nat) : Out → Bool
  | .ret v => v.fits n nm k
  | .pan v => v.fits n nm k

/-- THE END OF A CALL that began in σ0: either all is kept, or what was made is forgotten. -/
def ExitOk (σ0 : St) (Q : Out → St → Prop) (out : Out) (σ1 : St) : Prop :=
  Q out σ1 ∨ ∃ n nm k, σ0.objs.length ≤ n ∧ σ0.maps.length ≤ nm ∧ σ0.toks.length ≤ k ∧ n ≤ σ1.objs.length ∧ nm ≤ σ1.maps.length ∧ k ≤ σ1.toks.length ∧ (out.clean k).fits n nm k = true ∧
    (∀ (o : Nat) (cs : List V), o < n → σ1.objs[o]? = some cs → σ0.objs[o]? = some cs ∨ fitsL n nm k cs = true) ∧
    (∀ (r : Nat) (es : List (V × V)), r < nm → σ1.maps[r]? = some es → σ0.maps[r]? = some es ∨ ∀ e ∈ es, e.1.fits n nm k = true ∧ e.2.fits n nm k = true) ∧
    Q (out.clean k) ⟨σ1.objs.take n, σ1.maps.take nm, σ1.toks.take k, σ1.tys.take n, σ1.tts.take k⟩

section
variable {X : Ctx} {m : Nat} {μ : Mem} {w : World} {fr : Fr} {σ : St} {a : Act}

theorem RVs.fits {cs : List V} {us : List Value} (h : RVs μ w cs us) : fitsL μ.n μ.nm μ.tl.length cs = true := by
  rw [fitsL_iff]
  intro v hv
  obtain ⟨i, hi, rfl⟩ := List.getElem_of_mem hv
  have := (h.2 i hi).fits
  rwa [List.getD_eq_getElem?_getD, List.getElem?_eq_getElem hi] at this

theorem RVs.trunc {n nm k : Nat} {cs : List V} {us : List Value} (h : RVs μ w cs us) (hf : fitsL n nm k cs = true) : RVs (μ.trunc n nm k) w cs us :=
  ⟨h.1, fun i hi => (h.2 i hi).trunc (fits_getD hf hi)⟩

theorem Ev.trunc {μ₁ : Mem} {w₁ : World} (h : Ev μ w μ₁ w₁) {n nm k : Nat} (hn : μ.n ≤ n) (hm : μ.nm ≤ nm) (hk : μ.tl.length ≤ k) : Ev μ w (μ₁.trunc n nm k) w₁ :=
  { h with
    n := hn
    nm := hm
    tl := by simp only [Mem.trunc, List.length_take]; have := h.tl; omega
    tk := fun t ht => by
      simp only [Mem.trunc]
      rw [getD_take (by omega)]
      exact h.tk t ht
    shape := h.shape
    tt := h.tt }

theorem Rel.trunc {n nm k : Nat} (h : Rel μ σ w) (hn : n ≤ σ.objs.length) (hnm : nm ≤ σ.maps.length) (hk : k ≤ σ.toks.length) (ho : ∀ (o : Nat) (cs : List V), o < n → σ.objs[o]? = some cs → fitsL n nm k cs = true)
    (hm : ∀ (r : Nat) (es : List (V × V)), r < nm → σ.maps[r]? = some es → ∀ e ∈ es, e.1.fits n nm k = true ∧ e.2.fits n nm k = true) (hg : ∀ p ∈ μ.G, fitsL n nm k p.2 = true) :
    Rel (μ.trunc n nm k) ⟨σ.objs.take n, σ.maps.take nm, σ.toks.take k, σ.tys.take n, σ.tts.take k⟩ w where
  n := by simp [Mem.trunc]; omega
  nm := by simp [Mem.trunc]; omega
  tl := by simp [Mem.trunc, h.tl]
  base := h.base
  past := h.past
  glob g cs hgm := by
    obtain ⟨k1, us, k2, k3⟩ := h.glob g cs hgm
    exact ⟨k1, us, k2.trunc (hg _ hgm), k3⟩
  obj o cs hos := by
    rw [List.getElem?_take] at hos
    split at hos
    · rename_i hlt
      obtain ⟨k1, k2, k3, us, k4, k5⟩ := h.obj o cs hos
      exact ⟨k1, k2, k3, us, k4.trunc (ho o cs hlt hos), k5⟩
    · cases hos
  inj o o' h1 h2 e := h.inj o o' (by rw [h.n]; simp only [Mem.trunc] at h1; omega) (by rw [h.n]; simp only [Mem.trunc] at h2; omega) e
  map r es hr := by
    rw [List.getElem?_take] at hr
    split at hr
    · rename_i hlt
      obtain ⟨k1, cl, us, k2, k3, k4⟩ := h.map r es hr
      refine ⟨k1, cl, us, k2, k3, fun j kk v e hj hu => ?_⟩
      have := hm r es hlt hr (kk, v) (List.mem_of_getElem? hj)
      exact ⟨(k4 j kk v e hj hu).1.trunc this.1, (k4 j kk v e hj hu).2.trunc this.2⟩
    · cases hr
  minj o o' h1 h2 e := h.minj o o' (by rw [h.nm]; simp only [Mem.trunc] at h1; omega) (by rw [h.nm]; simp only [Mem.trunc] at h2; omega) e
  tok t ht := by
    simp only [Mem.trunc, List.length_take] at ht
    obtain ⟨k1, k2, k3, k4⟩ := h.tok t (by omega)
    refine ⟨k1, k2, ?_, fun o ho' => k4 o (by rw [h.n]; simp only [Mem.trunc] at ho'; omega)⟩
    simp only [Mem.trunc]
    rw [getD_take (by omega)]
    exact k3
  tinj t t' h1 h2 e := by
    simp only [Mem.trunc, List.length_take] at h1 h2
    exact h.tinj t t' (by omega) (by omega) e
  mo r o hr ho' := h.mo r o (by rw [h.nm]; simp only [Mem.trunc] at hr; omega) (by rw [h.n]; simp only [Mem.trunc] at ho'; omega)
  mt r t hr ht := by
    simp only [Mem.trunc, List.length_take] at ht
    exact h.mt r t (by rw [h.nm]; simp only [Mem.trunc] at hr; omega) (by omega)
  tys := by simp [h.tys]
  ty o e ho' := by
    rw [List.getElem?_take] at ho'
    split at ho'
    · exact h.ty o e ho'
    · cases ho'
  tts := by simp [h.tts]
  tt i e hi := by
    rw [List.getElem?_take] at hi
    split at hi
    · exact h.tt i e hi
    · cases hi

theorem exit_sound {μ₁ : Mem} {w₁ : World} {σ₁ : St} {Q : Out → St → Prop} {out : Out} {e : Ending} (h : ExitOk σ Q out σ₁) (hrel : Rel μ σ w) (hev : Ev μ w μ₁ w₁) (hrel1 : Rel μ₁ σ₁ w₁) (hro : RO μ₁ w₁ out e) : Sims μ w Q e w₁ := by
  rcases h with h | ⟨n, nm, k, h1, h2, h3, h4, h5, h6, h7, h8, h9, h10⟩
  · exact ⟨μ₁, σ₁, out, h, hev, hrel1, hro⟩
  · have hn : μ.n ≤ n := by rw [hrel.n]; exact h1
    have hm : μ.nm ≤ nm := by rw [hrel.nm]; exact h2
    have hk : μ.tl.length ≤ k := by rw [hrel.tl]; exact h3
    refine ⟨μ₁.trunc n nm k, _, out.clean k, h10, hev.trunc hn hm hk, hrel1.trunc h4 h5 h6 (fun o cs ho hos => ?_) (fun r es hr hrs => ?_) (fun p hp => ?_), ?_⟩
    · rcases h8 o cs ho hos with h | h
      · obtain ⟨_, _, _, us, k4, _⟩ := hrel.obj o cs h
        exact fitsL_mono hn hm hk _ k4.fits
      · exact h
    · rcases h9 r es hr hrs with h | h
      · obtain ⟨_, cl, us, _, k3, k4⟩ := hrel.map r es h
        intro e he
        obtain ⟨j, hj, rfl⟩ := List.getElem_of_mem he
        have hj' : j < us.size := by rw [k3]; exact hj
        obtain ⟨g1, g2⟩ := k4 j _ _ us[j] (List.getElem?_eq_getElem hj) (Array.getElem?_eq_getElem hj')
        exact ⟨fits_mono hn hm hk _ g1.fits, fits_mono hn hm hk _ g2.fits⟩
      · exact h
    · rw [hev.G] at hp
      obtain ⟨_, us, k2, _⟩ := hrel.glob p.1 p.2 hp
      exact fitsL_mono hn hm hk _ k2.fits
    · cases out with
      | ret v =>
        obtain ⟨u, hu, rfl⟩ := hro
        exact ⟨u, (hu.clean k).trunc h7, rfl⟩
      | pan v =>
        obtain ⟨u, hu, rfl⟩ := hro
        exact ⟨u, (hu.clean k).trunc h7, rfl⟩

/-! ### Whole bodies -/
def ccode (P : Program) (m : Nat) : Code → Option VCode
  | .skip => some .skip
  | .region _ ops draw =>
    if draw then (match ctail P m ops with
      | some vc => some vc
      | none => do
        let its ← citems P m ops ops.toList
        let vd ← cdraw ops.toList its
        pure (.draw vd))
    else do
      let its ← citems P m ops ops.toList
      pure (.reg its)
  | .seq a b => do pure (.seq (← ccode P m a) (← ccode P m b))
  | .cond c a b => do pure (.cond (← copd m c) (← ccode P m a) (← ccode P m b))
  | .block id b => do pure (.block id (← ccode P m b))
  | .loop b => do pure (.loop (← ccode P m b))
  | .exit id => some (.exit id)
  | .ret => some .ret
  | .scope b => ccode P m b
  | .label _ => some .skip
  | .refuse _ => some .stop
  | _ => none

theorem W_sound (hmix : X.P.follows .mixedOrders = true) : ∀ (c : Code) (vc : VCode) (K : VEx → Fr → St → Prop) (fr : Fr) (σ : St) (μ : Mem) (w : World) (a : Act), ccode X.P m c = some vc → W X vc K fr σ → μ.G = X.G → Rel μ σ w → FrRel m μ w fr a →
    c.wp X.P (KR m μ w a.defers K) a w
  | .skip, vc, K, fr, σ, μ, w, a, hc, h, hG, hrel, hfr => by
    simp only [ccode, Option.some.injEq] at hc
    subst hc
    exact wp_skip ⟨.norm, fr, σ, μ, h, Ev.refl μ w, hrel, hfr, rfl, rfl⟩
  | .region id ops draw, vc, K, fr, σ, μ, w, a, hc, h, hG, hrel, hfr => by
    simp only [ccode] at hc
    cases draw with
    | false =>
      simp only [Bool.false_eq_true, if_false, Option.bind_eq_bind, Option.bind_eq_some_iff, Option.pure_def, Option.some.injEq] at hc
      obtain ⟨its, hits, rfl⟩ := hc
      exact wp_region_list (Wit_sound ops.toList its fr σ μ w a hits hG hrel hfr h _ fun _ _ _ h => h)
    | true =>
      simp only [if_true] at hc
      split at hc
      · rename_i vc' hvc
        simp only [Option.some.injEq] at hc
        subst hc
        exact ctail_sound hmix hvc h hG hrel hfr
      · simp only [Option.bind_eq_bind, Option.bind_eq_some_iff, Option.pure_def, Option.some.injEq] at hc
        obtain ⟨its, hits, vd, hd, rfl⟩ := hc
        exact draw_sound hmix hd hits h hG hrel hfr
  | .seq x y, vc, K, fr, σ, μ, w, a, hc, h, hG, hrel, hfr => by
    simp only [ccode, Option.bind_eq_bind, Option.bind_eq_some_iff, Option.pure_def, Option.some.injEq] at hc
    obtain ⟨vx, hx, vy, hy, rfl⟩ := hc
    refine wp_seq (wp_mono (W_sound hmix x vx _ fr σ μ w a hx h hG hrel hfr) ?_)
    rintro e a' w' ⟨ve, fr', σ', μ', hk, hev, hrel', hfr', hds, her⟩
    cases ve with
    | norm =>
      cases her
      have := W_sound hmix y vy K fr' σ' μ' w' a' hy hk (hev.G.trans hG) hrel' hfr'
      rw [hds] at this
      exact wp_mono this fun e a w hh => hh.trans hev
    | exit id => cases her; exact ⟨_, fr', σ', μ', hk, hev, hrel', hfr', hds, rfl⟩
    | ret => cases her; exact ⟨_, fr', σ', μ', hk, hev, hrel', hfr', hds, rfl⟩
    | pan v => obtain ⟨u, hu, rfl⟩ := her; exact ⟨_, fr', σ', μ', hk, hev, hrel', hfr', hds, u, hu, rfl⟩
  | .cond c x y, vc, K, fr, σ, μ, w, a, hc, h, hG, hrel, hfr => by
    simp only [ccode, Option.bind_eq_bind, Option.bind_eq_some_iff, Option.pure_def, Option.some.injEq] at hc
    obtain ⟨c', hc', vx, hx, vy, hy, rfl⟩ := hc
    have hv := hfr.ops _ _ hc'
    simp only [W] at h
    generalize c'.ev fr = v at h hv
    cases v with
    | bool b =>
      cases b with
      | true => exact wp_cond_true hv.ofBool (W_sound hmix x vx K fr σ μ w a hx h hG hrel hfr)
      | false => exact wp_cond_false hv.ofBool (W_sound hmix y vy K fr σ μ w a hy h hG hrel hfr)
    | _ => exact (h : False).elim
  | .block id b, vc, K, fr, σ, μ, w, a, hc, h, hG, hrel, hfr => by
    simp only [ccode, Option.bind_eq_bind, Option.bind_eq_some_iff, Option.pure_def, Option.some.injEq] at hc
    obtain ⟨vb, hb, rfl⟩ := hc
    refine wp_block (wp_mono (W_sound hmix b vb _ fr σ μ w a hb h hG hrel hfr) ?_)
    rintro e a' w' ⟨ve, fr', σ', μ', hk, hev, hrel', hfr', hds, her⟩
    cases ve with
    | norm => cases her; exact ⟨_, fr', σ', μ', hk, hev, hrel', hfr', hds, rfl⟩
    | exit i =>
      cases her
      simp only [Exit.inBlock]
      simp only [blockK] at hk
      split
      · rename_i e; rw [if_pos e] at hk; exact ⟨_, fr', σ', μ', hk, hev, hrel', hfr', hds, rfl⟩
      · rename_i e; rw [if_neg e] at hk; exact ⟨_, fr', σ', μ', hk, hev, hrel', hfr', hds, rfl⟩
    | ret => cases her; exact ⟨_, fr', σ', μ', hk, hev, hrel', hfr', hds, rfl⟩
    | pan v => obtain ⟨u, hu, rfl⟩ := her; exact ⟨_, fr', σ', μ', hk, hev, hrel', hfr', hds, u, hu, rfl⟩
  | .loop b, vc, K, fr, σ, μ, w, a, hc, h, hG, hrel, hfr => by
    simp only [ccode, Option.bind_eq_bind, Option.bind_eq_some_iff, Option.pure_def, Option.some.injEq] at hc
    obtain ⟨vb, hb, rfl⟩ := hc
    obtain ⟨I, n0, h0, hround⟩ := h
    refine wp_loop_ghost (fun n a' w' => ∃ fr' σ' μ', I n fr' σ' ∧ Ev μ w μ' w' ∧ Rel μ' σ' w' ∧ FrRel m μ' w' fr' a' ∧ a'.defers = a.defers) n0 ⟨fr, σ, μ, h0, Ev.refl μ w, hrel, hfr, rfl⟩ ?_
    rintro n a1 w1 ⟨fr1, σ1, μ1, hI, hev1, hrel1, hfr1, hds1⟩
    refine wp_mono (W_sound hmix b vb _ fr1 σ1 μ1 w1 a1 hb (hround n fr1 σ1 hI) (hev1.G.trans hG) hrel1 hfr1) ?_
    rintro e a' w' ⟨ve, fr', σ', μ', hk, hev, hrel', hfr', hds, her⟩
    rw [hds1] at hds
    cases ve with
    | norm =>
      cases her
      obtain ⟨n', hlt, hI'⟩ := hk
      exact ⟨n', hlt, fr', σ', μ', hI', hev1.trans hev, hrel', hfr', hds⟩
    | exit i => cases her; exact ⟨_, fr', σ', μ', hk, hev1.trans hev, hrel', hfr', hds, rfl⟩
    | ret => cases her; exact ⟨_, fr', σ', μ', hk, hev1.trans hev, hrel', hfr', hds, rfl⟩
    | pan v => obtain ⟨u, hu, rfl⟩ := her; exact ⟨_, fr', σ', μ', hk, hev1.trans hev, hrel', hfr', hds, u, hu, rfl⟩
  | .exit id, vc, K, fr, σ, μ, w, a, hc, h, hG, hrel, hfr => by
    simp only [ccode, Option.some.injEq] at hc
    subst hc
    exact wp_exit ⟨.exit id, fr, σ, μ, h, Ev.refl μ w, hrel, hfr, rfl, rfl⟩
  | .ret, vc, K, fr, σ, μ, w, a, hc, h, hG, hrel, hfr => by
    simp only [ccode, Option.some.injEq] at hc
    subst hc
    exact wp_ret ⟨.ret, fr, σ, μ, h, Ev.refl μ w, hrel, hfr, rfl, rfl⟩
  | .rangeFunc .., _, _, _, _, _, _, _, hc, _, _, _, _ => by simp only [ccode, reduceCtorEq] at hc
  | .scope b, vc, K, fr, σ, μ, w, a, hc, h, hG, hrel, hfr => by
    simp only [ccode] at hc
    refine wp_scope_straight (wp_mono (W_sound hmix b vc K fr σ μ w a hc h hG hrel hfr) ?_)
    rintro e a' w' ⟨ve, fr', σ', μ', hk, hev, hrel', hfr', hds, her⟩
    cases ve with
    | norm => cases her; exact ⟨_, fr', σ', μ', hk, hev, hrel', hfr', hds, rfl⟩
    | exit i => cases her; exact ⟨_, fr', σ', μ', hk, hev, hrel', hfr', hds, rfl⟩
    | ret => cases her; exact ⟨_, fr', σ', μ', hk, hev, hrel', hfr', hds, rfl⟩
    | pan v => obtain ⟨u, hu, rfl⟩ := her; exact ⟨_, fr', σ', μ', hk, hev, hrel', hfr', hds, u, hu, rfl⟩
  | .label l, vc, K, fr, σ, μ, w, a, hc, h, hG, hrel, hfr => by
    simp only [ccode, Option.some.injEq] at hc
    subst hc
    exact wp_label ⟨.norm, fr, σ, μ, h, Ev.refl μ w, hrel, hfr, rfl, rfl⟩
  | .goto .., _, _, _, _, _, _, _, hc, _, _, _, _ => by simp only [ccode, reduceCtorEq] at hc
  | .refuse .., vc, K, fr, σ, μ, w, a, hc, h, _, _, _ => by
    simp only [ccode, Option.some.injEq] at hc
    subst hc
    exact (h : False).elim

end
end Go.Vs

namespace Go.Vs

/-- A result variable, read. -/
inductive RVar where
  | t (n : Nat)
  | l (x : Nat)
  | a (k x : Nat)

def headK (cs : Option (List V)) (K : V → Prop) : Prop :=
  match cs with
  | some (v :: _) => K v
  | _ => False

def takeK (k : Nat) (cs : Option (List V)) (K : V → Prop) : Prop :=
  match cs with
  | some cs => k ≤ cs.length ∧ K (.agg (cs.take k))
  | none => False

def rvarK (G : List (Nat × List V)) (r : RVar) (fr : Fr) (σ : St) (K : V → Prop) : Prop :=
  match r with
  | .t n => K (fr n)
  | .l x => headK (vcells G σ (fr x)) K
  | .a k x => takeK k (vcells G σ (fr x)) K

def consK (K : List V → Prop) (v : V) (vs : List V) : Prop := K (v :: vs)

def rvarsK (G : List (Nat × List V)) : List RVar → Fr → St → (List V → Prop) → Prop
  | [], _, _, K => K []
  | r :: rs, fr, σ, K => rvarK G r fr σ fun v => rvarsK G rs fr σ (consK K v)

def rvarsN (G : List (Nat × List V)) (rs : List RVar) (fr : Fr) (σ : St) (K : List V → Prop) (v : V) : Prop := rvarsK G rs fr σ (consK K v)

def tupV : List V → V
  | [v] => v
  | vs => .tup vs

/-- A function of the program, read: its code, its results. -/
structure VFunc where
  m : Nat
  code : VCode
  res : List RVar

def finV (σ0 : St) (Q : Out → St → Prop) (σ : St) (vs : List V) : Prop := ExitOk σ0 Q (.ret (tupV vs)) σ

def FinK (X : Ctx) (rs : List RVar) (σ0 : St) (Q : Out → St → Prop) : VEx → Fr → St → Prop
  | .norm, fr, σ | .ret, fr, σ => rvarsK X.G rs fr σ (finV σ0 Q σ)
  | .pan v, _, σ => ExitOk σ0 Q (.pan v) σ
  | .exit _, _, _ => False

def args0 (args : List V) : Fr := fun t => args.getD t .und

def crvar (P : Program) (m : Nat) : ResultVar → Option RVar
  | .tmp t => if t < m then some (.t t) else none
  | .cell x ty => if x < m then (match P.underlying ty with
    | some d => if isAggD d then (P.info? ty).map fun i => .a i.size x else some (.l x)
    | none => none) else none

/-- Function f of P is read as vf. -/
def cfunc (P : Program) (f : FuncId) : Option VFunc := do
  let fn ← P.funcs[f]?
  let b ← fn.body
  let c ← ccode P fn.ntmps b
  let rs ← fn.results.toList.mapM (crvar P fn.ntmps)
  if fn.name != "runtime.NumGoroutine" then pure { m := fn.ntmps, code := c, res := rs } else none

def rdVar (tmps : Array Value) : ResultVar → Sem Value
  | .tmp t => pure (tmps.getD t undef)
  | .cell x t => do loadVar t (← asAddr (tmps.getD x undef))

theorem results_rd (fn : Func) (tmps : Array Value) : results fn tmps = (do
    let vs ← fn.results.mapM (rdVar tmps)
    pure (if h : vs.size = 1 then vs[0] else .tuple vs)) := by
  unfold results
  congr 2

section
variable {X : Ctx} {m : Nat} {μ : Mem} {w : World} {fr : Fr} {σ : St} {a : Act}

theorem rvar_sound {r : ResultVar} {r' : RVar} (hc : crvar X.P m r = some r') (hG : μ.G = X.G) (hrel : Rel μ σ w) (hfr : FrRel m μ w fr a) {K : V → Prop} (h : rvarK X.G r' fr σ K) :
    ∃ v u, K v ∧ RV μ w v u ∧ (rdVar a.tmps r).run X.P w = .ok u w := by
  cases r with
  | tmp t =>
    simp only [crvar] at hc
    split at hc
    · rename_i hlt
      simp only [Option.some.injEq] at hc
      subst hc
      exact ⟨fr t, _, h, hfr.rel t hlt, rfl⟩
    · cases hc
  | cell x ty =>
    simp only [crvar] at hc
    split at hc
    · rename_i hlt
      have hv := hfr.rel x hlt
      split at hc
      · rename_i d hd
        split at hc
        · rename_i hagg
          simp only [Option.map_eq_some_iff] at hc
          obtain ⟨i, hi, rfl⟩ := hc
          simp only [rvarK, takeK, headK] at h
          rw [← hG] at h
          split at h
          · rename_i cs hcs
            obtain ⟨b, off, us, hu, h1, h2, h3⟩ := vcells_sound hrel hv hcs
            obtain ⟨hn, h⟩ := h
            have hlen : (us.take i.size).length = i.size := by rw [List.length_take, ← h1.1]; omega
            have hr : d.isRow = true := by cases d <;> simp_all [isAggD]
            have e := run_loadVar_mid (P := X.P) w b off ty (us.take i.size) d (rangeAt_take h2 _) hd hr (by simp [hi, hlen])
            refine ⟨_, _, h, RV.mkAgg (h1.take _) fun u hu => h3 u (List.mem_of_mem_take hu), ?_⟩
            simp only [rdVar, hu, asAddr, Sem.run_bind, Sem.run_pure, Result.andThen_ok, e]
          · exact h.elim
        · rename_i hagg
          simp only [Option.some.injEq] at hc
          subst hc
          simp only [rvarK, takeK, headK] at h
          rw [← hG] at h
          split at h
          · rename_i v r hcs
            obtain ⟨b, off, us, hu, h1, h2, h3⟩ := vcells_sound hrel hv hcs
            obtain ⟨u, hu', hvu⟩ := h1.get (i := 0) (v := v) rfl
            have hcell := h2 0 u hu'
            simp only [Nat.add_zero] at hcell
            refine ⟨v, u, h, hvu, ?_⟩
            have hagg' : isAggD d = false := by simpa using hagg
            simp [rdVar, hu, asAddr, loadVar, isAgg_run hd, hagg', hcell]
          · exact h.elim
      · cases hc
    · cases hc

theorem rvars_sound (hG : μ.G = X.G) (hrel : Rel μ σ w) (hfr : FrRel m μ w fr a) : ∀ {rs : List ResultVar} {rs' : List RVar} {K : List V → Prop}, rs.mapM (crvar X.P m) = some rs' → rvarsK X.G rs' fr σ K →
    ∃ vs us, K vs ∧ RVs μ w vs us ∧ (rs.mapM (rdVar a.tmps)).run X.P w = .ok us w
  | [], rs', K, hc, h => by
    simp only [List.mapM_nil, Option.pure_def, Option.some.injEq] at hc
    subst hc
    exact ⟨[], [], h, ⟨rfl, fun i hi => by simp at hi⟩, rfl⟩
  | r :: rs, rs', K, hc, h => by
    simp only [List.mapM_cons, Option.bind_eq_bind, Option.bind_eq_some_iff, Option.pure_def, Option.some.injEq] at hc
    obtain ⟨r', hr', q, hq, rfl⟩ := hc
    obtain ⟨v, u, h1, h2, h3⟩ := rvar_sound hr' hG hrel hfr h
    obtain ⟨vs, us, h4, h5, h6⟩ := rvars_sound hG hrel hfr hq h1
    refine ⟨v :: vs, u :: us, h4, (RVs.single h2).append h5, ?_⟩
    simp only [List.mapM_cons, Sem.run_bind, h3, Result.andThen_ok, h6, Sem.run_pure]

theorem results_sound {fn : Func} {rs' : List RVar} {K : List V → Prop} (hc : fn.results.toList.mapM (crvar X.P m) = some rs') (hG : μ.G = X.G) (hrel : Rel μ σ w) (hfr : FrRel m μ w fr a) (h : rvarsK X.G rs' fr σ K) :
    ∃ vs u, K vs ∧ RV μ w (tupV vs) u ∧ (results fn a.tmps).run X.P w = .ok u w := by
  obtain ⟨vs, us, h1, h2, h3⟩ := rvars_sound hG hrel hfr hc h
  have hrun : (results fn a.tmps).run X.P w = .ok (if h : us.toArray.size = 1 then us.toArray[0] else .tuple us.toArray) w := by
    simp only [results_rd, Array.mapM_eq_mapM_toList, Sem.run_bind, Sem.run_map, h3, Result.andThen_ok, Sem.run_pure]
  refine ⟨vs, _, h1, ?_, hrun⟩
  cases vs with
  | nil =>
    have : us = [] := by have := h2.1; simpa using this.symm
    subst this
    exact RV.mkTup (us := []) h2
  | cons v vs =>
    cases vs with
    | nil =>
      cases us with
      | nil => have := h2.1; simp at this
      | cons u us =>
        have hus : us = [] := by have := h2.1; simpa using this.symm
        subst hus
        have := h2.2 0 (by simp)
        simpa [tupV] using this
    | cons v2 vs =>
      have hl : us.length = vs.length + 2 := by have := h2.1; simp at this; omega
      rw [dif_neg (by simp; omega)]
      exact RV.mkTup h2

/-- A FUNCTION BY ITS BODY. -/
theorem C_body (hmix : X.P.follows .mixedOrders = true) {f : FuncId} {vf : VFunc} (hf : cfunc X.P f = some vf) {args : List V} {Q : Out → St → Prop} (hlen : Nat.ble args.length vf.m = true)
    (h : W X vf.code (FinK X vf.res σ Q) (args0 args) σ) : C X f args σ Q := by
  unfold cfunc at hf
  simp only [Option.bind_eq_bind, Option.bind_eq_some_iff] at hf
  obtain ⟨fn, hfn, b, hb, c, hc, rs, hrs, hf⟩ := hf
  split at hf
  · rename_i hname
    simp only [Option.pure_def, Option.some.injEq] at hf
    subst hf
    have hlen := Nat.le_of_ble_eq_true hlen
    refine ⟨by simp only [callable, hfn, hb, Option.isSome_some, Bool.true_and]; exact hname, fun μ w us hG hrel hus => ?_⟩
    have hsz : us.toArray.size = args.length := by simpa using hus.1.symm
    refine calls_of_wp hfn hb (wp_mono (W_sound hmix b c _ _ σ μ w _ hc h hG hrel ?_) ?_)
    · refine ⟨by simp only [Array.size_append, Array.size_replicate, hsz]; simp only at hlen; omega, fun t ht => ?_⟩
      by_cases htl : t < args.length
      · have := hus.2 t htl
        have htl' : t < us.length := by rw [← hus.1]; exact htl
        simpa [args0, List.getD_eq_getElem?_getD, Array.getElem?_append, htl'] using this
      · have e1 : args0 args t = .und := by
          simp only [args0, List.getD_eq_getElem?_getD]
          rw [List.getElem?_eq_none (by omega)]; rfl
        have e2 : (us.toArray ++ Array.replicate (fn.ntmps - us.toArray.size) undef).getD t undef = undef := by
          have htl' : ¬ t < us.length := by rw [← hus.1]; exact htl
          simp only [Array.getD_eq_getD_getElem?, Array.getElem?_append, List.size_toArray, htl', if_false, Array.getElem?_replicate]
          split <;> rfl
        rw [e1, e2]
        exact RV.mkTup (cs := []) (us := []) ⟨rfl, fun i hi => by simp at hi⟩
    · rintro e a' w' ⟨ve, fr', σ', μ', hk, hev, hrel', hfr', hds, her⟩
      have retc : ∀ {K' : List V → Prop}, rvarsK X.G rs fr' σ' K' → (∀ vs, K' vs → ExitOk σ Q (.ret (tupV vs)) σ') → a'.defers = [] ∧ ∃ v, (results fn a'.tmps).run X.P w' = .ok v w' ∧ Sims μ w Q (.returned v) w' := by
        intro K' hK' hfin
        obtain ⟨vs, u, h1, h2, h3⟩ := results_sound hrs (hev.G.trans hG) hrel' hfr' hK'
        exact ⟨hds, u, h3, exit_sound (hfin vs h1) hrel hev hrel' ⟨u, h2, rfl⟩⟩
      cases ve with
      | norm => cases her; exact retc hk fun vs h => h
      | ret => cases her; exact retc hk fun vs h => h
      | exit id => exact hk.elim
      | pan v =>
        obtain ⟨u, hu, rfl⟩ := her
        exact ⟨hds, exit_sound hk hrel hev hrel' ⟨u, hu, rfl⟩⟩
  · cases hf

end
end Go.Vs

namespace Go.Vs
set_option maxRecDepth 20000

/-! Short names of what is read. -/
def zI : V := .int .i64 0
def zS : V := .str []
def zL : V := .slc false [] .no
def zB : V := .bool false
def iM (d x : Nat) : VItem := ⟨some d, none, .op (.mov (.t x))⟩
def iO (d : Nat) (o : VOp) : VItem := ⟨some d, none, .op o⟩
def iG (d g : Nat) (b : Bool) (o : VOp) : VItem := ⟨some d, some (g, b), .op o⟩
def iN (o : VOp) : VItem := ⟨none, none, .op o⟩
def iC (d f : Nat) (as : List Opd) : VItem := ⟨some d, none, .call f as⟩
def iH (d g : Nat) (b : Bool) (f : Nat) (as : List Opd) : VItem := ⟨some d, some (g, b), .call f as⟩
def iB (d : Nat) (op : BinOp) (x y : Nat) : VItem := ⟨some d, none, .op (.bin op (.t x) (.t y))⟩
def iK (d : Nat) (op : BinOp) (x : Nat) (k : IntKind) (n : Int) : VItem := ⟨some d, none, .op (.bin op (.t x) (.c (.int k n)))⟩
def iF (d o x : Nat) : VItem := ⟨some d, none, .op (.fadr o (.t x))⟩
def iL (d x : Nat) : VItem := ⟨some d, none, .op (.loadL (.t x))⟩
def iA (d n x : Nat) : VItem := ⟨some d, none, .op (.loadA n (.t x))⟩
def iS (n x v : Nat) : VItem := ⟨none, none, .op (.store n (.t x) (.t v))⟩
def iE (d x i : Nat) : VItem := ⟨some d, none, .op (.ext (.t x) i)⟩
def iI (d : Nat) (k : IntKind) (n : Int) : VItem := ⟨some d, none, .op (.mov (.c (.int k n)))⟩
def iP (d g : Nat) (b : Bool) (x : Nat) : VItem := ⟨some d, some (g, b), .op (.mov (.t x))⟩
def iT (d g x : Nat) : VItem := ⟨some d, none, .op (.pick (.t g) (.c (.bool true)) (.t x))⟩
def iU (d g x : Nat) : VItem := ⟨some d, none, .op (.pick (.t g) (.t x) (.c (.bool false)))⟩
def iJ (d g : Nat) (b : Bool) (op : BinOp) (x : Nat) (k : IntKind) (n : Int) : VItem := ⟨some d, some (g, b), .op (.bin op (.t x) (.c (.int k n)))⟩
def iR (d g : Nat) (b : Bool) (op : BinOp) (x y : Nat) : VItem := ⟨some d, some (g, b), .op (.bin op (.t x) (.t y))⟩
def sr (l : List VItem) (c : VCode) : VCode := .seq (.reg l) c

/-- All of them at once: the walk's set of rules. -/
theorem ws : (∀ {b : Bool}, V.cells (.bool b) = [.bool b]) ∧
    (∀ {b : Bool}, V.notTup (.bool b) = true) ∧
    (∀ {k : IntKind} {n : Int}, V.cells (.int k n) = [.int k n]) ∧
    (∀ {k : IntKind} {n : Int}, V.notTup (.int k n) = true) ∧
    (∀ {s : List UInt8}, V.cells (.str s) = [.str s]) ∧
    (∀ {s : List UInt8}, V.notTup (.str s) = true) ∧
    (∀ {nn : Bool} {xs : List V} {tk : Tk}, V.cells (.slc nn xs tk) = [.slc nn xs tk]) ∧
    (∀ {nn : Bool} {xs : List V} {tk : Tk}, V.notTup (.slc nn xs tk) = true) ∧
    (∀ {a : Option (Nat × Nat)}, V.cells (.ref a) = [.ref a]) ∧
    (∀ {a : Option (Nat × Nat)}, V.notTup (.ref a) = true) ∧
    (∀ {g off : Nat}, V.cells (.gref g off) = [.gref g off]) ∧
    (∀ {g off : Nat}, V.notTup (.gref g off) = true) ∧
    (∀ {cs : List V}, V.cells (.eptr cs) = [.eptr cs]) ∧
    (∀ {cs : List V}, V.notTup (.eptr cs) = true) ∧
    (∀ {ty : TypeId} {v : V}, V.cells (.iface ty v) = [.iface ty v]) ∧
    (∀ {ty : TypeId} {v : V}, V.notTup (.iface ty v) = true) ∧
    (V.cells (.nilI) = [.nilI]) ∧
    (V.notTup (.nilI) = true) ∧
    (∀ {f : Fn} {a b : List V}, V.cells (.fn f a b) = [.fn f a b]) ∧
    (∀ {f : Fn} {a b : List V}, V.notTup (.fn f a b) = true) ∧
    (V.cells (.nilF) = [.nilF]) ∧
    (V.notTup (.nilF) = true) ∧
    (∀ {r : Option Nat}, V.cells (.mp r) = [.mp r]) ∧
    (∀ {r : Option Nat}, V.notTup (.mp r) = true) ∧
    (∀ {vs : List V}, V.cells (.tup vs) = [.tup vs]) ∧
    (∀ {cs : List V}, V.cells (.agg cs) = cs) ∧
    (∀ {cs : List V}, V.notTup (.agg cs) = true) ∧
    (∀ {X : Ctx} {K : VEx → Fr → St → Prop} {fr : Fr} {σ : St}, W X .skip K fr σ = K .norm fr σ) ∧
    (∀ {b : Bool}, wantV b V.und = false) ∧
    (∀ {X : Ctx} {K : VEx → Fr → St → Prop} {fr : Fr} {σ : St} {t : VTail}, W X (.tail t) K fr σ = tailW K t fr σ) ∧
    (∀ {X : Ctx} {K : VEx → Fr → St → Prop} {fr : Fr} {σ : St} {its : List VItem}, W X (.reg its) K fr σ = Wit X K its fr σ) ∧
    (∀ {X : Ctx} {K : VEx → Fr → St → Prop} {fr : Fr} {σ : St} {its : List VD}, W X (.draw its) K fr σ = Dit X K its fr σ) ∧
    (∀ {X : Ctx} {K : VEx → Fr → St → Prop} {fr : Fr} {σ : St} {a b : VCode}, W X (.seq a b) K fr σ = W X a (seqK (W X b K) K) fr σ) ∧
    (∀ {X : Ctx} {K : VEx → Fr → St → Prop} {fr : Fr} {σ : St} {c : Opd} {a b : VCode}, W X (.cond c a b) K fr σ = condK (c.ev fr) (W X a K) (W X b K) fr σ) ∧
    (∀ {X : Ctx} {K : VEx → Fr → St → Prop} {fr : Fr} {σ : St} {id : Nat} {b : VCode}, W X (.block id b) K fr σ = W X b (blockK id K) fr σ) ∧
    (∀ {X : Ctx} {K : VEx → Fr → St → Prop} {fr : Fr} {σ : St} {b : VCode}, W X (.loop b) K fr σ = LoopP (W X b) K fr σ) ∧
    (∀ {X : Ctx} {K : VEx → Fr → St → Prop} {fr : Fr} {σ : St} {id : Nat}, W X (.exit id) K fr σ = K (.exit id) fr σ) ∧
    (∀ {X : Ctx} {K : VEx → Fr → St → Prop} {fr : Fr} {σ : St}, W X .ret K fr σ = K .ret fr σ) ∧
    (∀ {X : Ctx} {K : VEx → Fr → St → Prop} {fr : Fr} {σ : St}, W X .stop K fr σ = False) ∧
    (∀ {X : Ctx} {K : VEx → Fr → St → Prop} {fr : Fr} {σ : St}, Wit X K [] fr σ = K .norm fr σ) ∧
    (∀ {X : Ctx} {K : VEx → Fr → St → Prop} {fr : Fr} {σ : St} {d : Option Nat} {act : VAct} {rest : List VItem}, Wit X K (⟨d, none, act⟩ :: rest) fr σ = actV X act fr σ (itK (Wit X K rest) K d fr)) ∧
    (∀ {X : Ctx} {K : VEx → Fr → St → Prop} {fr : Fr} {σ : St} {d : Option Nat} {act : VAct} {rest : List VItem} {g : Nat × Bool}, Wit X K (⟨d, some g, act⟩ :: rest) fr σ = chooseK (wantV g.2 (fr g.1)) (doIt X K ⟨d, some g, act⟩ (Wit X K rest)) (skipIt ⟨d, some g, act⟩ (Wit X K rest)) fr σ) ∧
    (∀ {X : Ctx} {K : VEx → Fr → St → Prop} {fr : Fr} {σ : St}, Dit X K [] fr σ = K .norm fr σ) ∧
    (∀ {X : Ctx} {K : VEx → Fr → St → Prop} {fr : Fr} {σ : St} {d : Option Nat} {act : VAct} {rest : List VD}, Dit X K (⟨⟨d, none, act⟩, none⟩ :: rest) fr σ = actD X act fr σ (sameK (Dit X K rest) d fr σ)) ∧
    (∀ {X : Ctx} {K : VEx → Fr → St → Prop} {fr : Fr} {σ : St} {d : Option Nat} {act : VAct} {rest : List VD} {g : Nat × Bool}, Dit X K (⟨⟨d, some g, act⟩, none⟩ :: rest) fr σ = chooseK (wantV g.2 (fr g.1)) (doItD X ⟨d, some g, act⟩ (Dit X K rest)) (skipIt ⟨d, some g, act⟩ (Dit X K rest)) fr σ) ∧
    (∀ {X : Ctx} {K : VEx → Fr → St → Prop} {fr : Fr} {σ : St} {d : Option Nat} {act : VAct} {rest : List VD} {ag : List VItem}, Dit X K (⟨⟨d, none, act⟩, some ag⟩ :: rest) fr σ = actV X act fr σ (loudK X K ag (Dit X K rest) d fr)) ∧
    (∀ {X : Ctx} {K : VEx → Fr → St → Prop} {fr : Fr} {σ : St} {d : Option Nat} {act : VAct} {rest : List VD} {ag : List VItem} {g : Nat × Bool}, Dit X K (⟨⟨d, some g, act⟩, some ag⟩ :: rest) fr σ = chooseK (wantV g.2 (fr g.1)) (doItL X K ag ⟨d, some g, act⟩ (Dit X K rest)) (skipIt ⟨d, some g, act⟩ (Dit X K rest)) fr σ) ∧
    (∀ {X : Ctx} {K : VEx → Fr → St → Prop} {fr : Fr} {σ : St} {next : Fr → St → Prop} {d : Option Nat} {g : Option (Nat × Bool)} {act : VAct}, doIt X K ⟨d, g, act⟩ next fr σ = actV X act fr σ (itK next K d fr)) ∧
    (∀ {X : Ctx} {fr : Fr} {σ : St} {next : Fr → St → Prop} {d : Option Nat} {g : Option (Nat × Bool)} {act : VAct}, doItD X ⟨d, g, act⟩ next fr σ = actD X act fr σ (sameK next d fr σ)) ∧
    (∀ {X : Ctx} {K : VEx → Fr → St → Prop} {fr : Fr} {σ : St} {next : Fr → St → Prop} {ag : List VItem} {d : Option Nat} {g : Option (Nat × Bool)} {act : VAct}, doItL X K ag ⟨d, g, act⟩ next fr σ = actV X act fr σ (loudK X K ag next d fr)) ∧
    (∀ {X : Ctx} {K : VEx → Fr → St → Prop} {fr : Fr} {σ : St} {next : Fr → St → Prop} {ag : List VItem} {d : Option Nat} {v : V}, loudK X K ag next d fr (.ret v) σ = againK X next ag (putO fr d v) σ) ∧
    (∀ {X : Ctx} {K : VEx → Fr → St → Prop} {fr : Fr} {σ : St} {next : Fr → St → Prop} {ag : List VItem} {d : Option Nat} {v : V}, loudK X K ag next d fr (.pan v) σ = panAll K v σ) ∧
    (∀ {K : VEx → Fr → St → Prop} {σ : St} {v : V}, panAll K v σ = ∀ fr, K (.pan v) fr σ) ∧
    (∀ {X : Ctx} {fr : Fr} {σ : St} {next : Fr → St → Prop}, againK X next [] fr σ = next fr σ) ∧
    (∀ {X : Ctx} {fr : Fr} {σ : St} {next : Fr → St → Prop} {d : Option Nat} {act : VAct} {r : List VItem}, againK X next (⟨d, none, act⟩ :: r) fr σ = (actD X act fr σ (sameV fr d σ) ∧ againK X next r fr σ)) ∧
    (∀ {X : Ctx} {fr : Fr} {σ : St} {next : Fr → St → Prop} {d : Option Nat} {act : VAct} {g : Nat × Bool} {r : List VItem}, againK X next (⟨d, some g, act⟩ :: r) fr σ = (chooseK (wantV g.2 (fr g.1)) (againIt X ⟨d, some g, act⟩) trueK fr σ ∧ againK X next r fr σ)) ∧
    (∀ {X : Ctx} {fr : Fr} {σ : St} {d : Option Nat} {g : Option (Nat × Bool)} {act : VAct}, againIt X ⟨d, g, act⟩ fr σ = actD X act fr σ (sameV fr d σ)) ∧
    (∀ {fr : Fr} {σ : St}, trueK fr σ = True) ∧
    (∀ {fr : Fr} {σ : St} {d : Nat} {v : V}, sameV fr (some d) σ v σ = (v = fr d)) ∧
    (∀ {fr : Fr} {σ : St} {v : V}, sameV fr none σ v σ = True) ∧
    (∀ {fr : Fr} {σ : St} {next : Fr → St → Prop} {d : Option Nat} {g : Option (Nat × Bool)} {act : VAct}, skipIt ⟨d, g, act⟩ next fr σ = next (putO fr d .und) σ) ∧
    (∀ {b : Bool} {yes no : Fr → St → Prop} {fr : Fr} {σ : St}, condK (.bool b) yes no fr σ = chooseK b yes no fr σ) ∧
    (∀ {X : Ctx} {o : VOp} {fr : Fr} {σ : St} {Ko : Out → St → Prop}, actV X (.op o) fr σ Ko = vop X.G o fr σ (retK Ko)) ∧
    (∀ {X : Ctx} {f : FuncId} {as : List Opd} {fr : Fr} {σ : St} {Ko : Out → St → Prop}, actV X (.call f as) fr σ Ko = C X f (evs fr as) σ Ko) ∧
    (∀ {X : Ctx} {x : Opd} {as : List Opd} {fr : Fr} {σ : St} {Ko : Out → St → Prop}, actV X (.callV x as) fr σ Ko = callVK X (x.ev fr) (evs fr as) σ Ko) ∧
    (∀ {X : Ctx} {x : Opd} {fr : Fr} {σ : St} {Ko : Out → St → Prop}, actV X (.panic x) fr σ Ko = panK (x.ev fr) σ Ko) ∧
    (∀ {X : Ctx} {o : VOp} {fr : Fr} {σ : St} {Kv : V → St → Prop}, actD X (.op o) fr σ Kv = vop X.G o fr σ Kv) ∧
    (∀ {X : Ctx} {f : FuncId} {as : List Opd} {fr : Fr} {σ : St} {Kv : V → St → Prop}, actD X (.call f as) fr σ Kv = callD X f (evs fr as) σ Kv) ∧
    (∀ {X : Ctx} {x : Opd} {as : List Opd} {fr : Fr} {σ : St} {Kv : V → St → Prop}, actD X (.callV x as) fr σ Kv = callDVK X (x.ev fr) (evs fr as) σ Kv) ∧
    (∀ {fr : Fr}, evs fr [] = []) ∧
    (∀ {fr : Fr} {x : Opd} {as : List Opd}, evs fr (x :: as) = x.ev fr :: evs fr as) ∧
    (∀ {X : Ctx} {f : FuncId} {first cap args : List V} {σ : St} {Ko : Out → St → Prop}, callVK X (.fn (.func f) first cap) args σ Ko = C X f (first ++ args ++ cap) σ Ko) ∧
    (∀ {X : Ctx} {f : FuncId} {first cap args : List V} {σ : St} {Kv : V → St → Prop}, callDVK X (.fn (.func f) first cap) args σ Kv = callD X f (first ++ args ++ cap) σ Kv) ∧
    (∀ {ty : TypeId} {v : V} {σ : St} {Ko : Out → St → Prop}, panK (.iface ty v) σ Ko = Ko (.pan (.iface ty v)) σ) ∧
    (∀ {K : VEx → Fr → St → Prop} {fr : Fr} {σ : St} {next : Fr → St → Prop} {d : Option Nat} {v : V}, itK next K d fr (.ret v) σ = next (putO fr d v) σ) ∧
    (∀ {K : VEx → Fr → St → Prop} {fr : Fr} {σ : St} {next : Fr → St → Prop} {d : Option Nat} {v : V}, itK next K d fr (.pan v) σ = K (.pan v) fr σ) ∧
    (∀ {Ko : Out → St → Prop} {v : V} {σ : St}, retK Ko v σ = Ko (.ret v) σ) ∧
    (∀ {fr : Fr} {σ : St} {next : Fr → St → Prop} {d : Option Nat} {v : V}, sameK next d fr σ v σ = next (putO fr d v) σ) ∧
    (∀ {K : VEx → Fr → St → Prop} {fr : Fr} {σ : St} {next : Fr → St → Prop}, seqK next K .norm fr σ = next fr σ) ∧
    (∀ {K : VEx → Fr → St → Prop} {fr : Fr} {σ : St} {i : Nat}, blockK i K .norm fr σ = K .norm fr σ) ∧
    (∀ {K : VEx → Fr → St → Prop} {fr : Fr} {σ : St} {next : Fr → St → Prop} {id : Nat}, seqK next K (.exit id) fr σ = K (.exit id) fr σ) ∧
    (∀ {K : VEx → Fr → St → Prop} {fr : Fr} {σ : St} {i : Nat} {id : Nat}, blockK i K (.exit id) fr σ = if id = i then K .norm fr σ else K (.exit id) fr σ) ∧
    (∀ {K : VEx → Fr → St → Prop} {fr : Fr} {σ : St} {next : Fr → St → Prop}, seqK next K .ret fr σ = K .ret fr σ) ∧
    (∀ {K : VEx → Fr → St → Prop} {fr : Fr} {σ : St} {i : Nat}, blockK i K .ret fr σ = K .ret fr σ) ∧
    (∀ {K : VEx → Fr → St → Prop} {fr : Fr} {σ : St} {next : Fr → St → Prop} {v : V}, seqK next K (.pan v) fr σ = K (.pan v) fr σ) ∧
    (∀ {K : VEx → Fr → St → Prop} {fr : Fr} {σ : St} {i : Nat} {v : V}, blockK i K (.pan v) fr σ = K (.pan v) fr σ) ∧
    (∀ {X : Ctx} {rs : List RVar} {σ0 : St} {Q : Out → St → Prop} {fr : Fr} {σ : St}, FinK X rs σ0 Q .norm fr σ = rvarsK X.G rs fr σ (finV σ0 Q σ)) ∧
    (∀ {X : Ctx} {rs : List RVar} {σ0 : St} {Q : Out → St → Prop} {fr : Fr} {σ : St}, FinK X rs σ0 Q .ret fr σ = rvarsK X.G rs fr σ (finV σ0 Q σ)) ∧
    (∀ {X : Ctx} {rs : List RVar} {σ0 : St} {Q : Out → St → Prop} {fr : Fr} {σ : St} {v : V}, FinK X rs σ0 Q (.pan v) fr σ = ExitOk σ0 Q (.pan v) σ) ∧
    (∀ {σ0 : St} {Q : Out → St → Prop} {σ : St} {vs : List V}, finV σ0 Q σ vs = ExitOk σ0 Q (.ret (tupV vs)) σ) ∧
    (∀ {G : List (Nat × List V)} {fr : Fr} {σ : St} {Kl : List V → Prop}, rvarsK G [] fr σ Kl = Kl []) ∧
    (∀ {G : List (Nat × List V)} {fr : Fr} {σ : St} {r : RVar} {rs : List RVar} {Kl : List V → Prop}, rvarsK G (r :: rs) fr σ Kl = rvarK G r fr σ (rvarsN G rs fr σ Kl)) ∧
    (∀ {G : List (Nat × List V)} {fr : Fr} {σ : St} {rs : List RVar} {Kl : List V → Prop} {v : V}, rvarsN G rs fr σ Kl v = rvarsK G rs fr σ (consK Kl v)) ∧
    (∀ {Kl : List V → Prop} {v : V} {vs : List V}, consK Kl v vs = Kl (v :: vs)) ∧
    (∀ {G : List (Nat × List V)} {fr : Fr} {σ : St} {n : Nat} {Kp : V → Prop}, rvarK G (.t n) fr σ Kp = Kp (fr n)) ∧
    (∀ {G : List (Nat × List V)} {fr : Fr} {σ : St} {n : Nat} {Kp : V → Prop}, rvarK G (.l n) fr σ Kp = headK (vcells G σ (fr n)) Kp) ∧
    (∀ {G : List (Nat × List V)} {fr : Fr} {σ : St} {k n : Nat} {Kp : V → Prop}, rvarK G (.a k n) fr σ Kp = takeK k (vcells G σ (fr n)) Kp) ∧
    (∀ {v : V} {r : List V} {Kp : V → Prop}, headK (some (v :: r)) Kp = Kp v) ∧
    (∀ {k : Nat} {cs : List V} {Kp : V → Prop}, takeK k (some cs) Kp = (k ≤ cs.length ∧ Kp (.agg (cs.take k)))) ∧
    (∀ {fr : Fr} {d t : Nat} {v : V}, upd fr d v t = if t = d then v else fr t) ∧
    (∀ {fr : Fr} {d : Nat} {v : V}, putO fr (some d) v = upd fr d v) ∧
    (∀ {fr : Fr} {v : V}, putO fr none v = fr) ∧
    (∀ {args : List V} {t : Nat}, args0 args t = args.getD t .und) ∧
    (∀ {fr : Fr} {n : Nat}, Opd.ev fr (.t n) = fr n) ∧
    (∀ {fr : Fr} {v : V}, Opd.ev fr (.c v) = v) ∧
    (∀ {w b : Bool}, wantV w (.bool b) = (b == w)) ∧
    (∀ {v : V}, tupV [v] = v) ∧
    (tupV [] = .tup []) ∧
    (∀ {a b : V} {vs : List V}, tupV (a :: b :: vs) = .tup (a :: b :: vs)) ∧
    (∀ {yes no : Fr → St → Prop} {fr : Fr} {σ : St}, chooseK true yes no fr σ = yes fr σ) ∧
    (∀ {yes no : Fr → St → Prop} {fr : Fr} {σ : St}, chooseK false yes no fr σ = no fr σ) ∧
    (∀ {b : Bool} {yes no : Fr → St → Prop} {fr : Fr} {σ : St}, chooseK (!b) yes no fr σ = chooseK b no yes fr σ) ∧
    (∀ {α : Type} {x : α} {xs : List α} {d : α}, (x :: xs).getD 0 d = x) ∧
    (∀ {α : Type} {x : α} {xs : List α} {n : Nat} {d : α}, (x :: xs).getD (n + 1) d = xs.getD n d) ∧
    (∀ {n : Nat} {α : Type} {d : α}, ([] : List α).getD n d = d) ∧
    (∀ {α : Type} {a b : α}, cond true a b = a) ∧
    (∀ {α : Type} {a b : α}, cond false a b = b) ∧
    (∀ (b x y : Bool), (bif b then V.bool x else V.bool y) = V.bool (bif b then x else y)) ∧
    (∀ {b : Bool}, (b == true) = b) ∧
    (∀ {b : Bool}, (b == false) = !b) ∧
    ((!true) = false) ∧
    ((!false) = true) ∧
    (∀ (p : Prop), (True ∧ p) = p) ∧
    (∀ (p : Prop), (p ∧ True) = p) ∧
    (∀ (p : Prop), (p ∧ p) = p) ∧
    (∀ {α β : Type} {f : α → β} {a : α} {l : List α}, (a :: l).map f = f a :: l.map f) ∧
    (∀ {α β : Type} {f : α → β}, ([] : List α).map f = []) ∧
    (∀ {α β : Type} (a : α) (f : α → β), (some a).map f = some (f a)) ∧
    (∀ {α β : Type} {f : α → β}, (none : Option α).map f = none) ∧
    (∀ {α : Type} {as bs : List α}, (as ++ bs).length = as.length + bs.length) ∧
    (∀ {α : Type} {a : α} {l : List α} {i : Nat}, (a :: l).drop (i + 1) = l.drop i) ∧
    (∀ {α : Type} {l : List α}, l.drop 0 = l) ∧
    (∀ {α : Type} {a : α} {as : List α} {i : Nat}, (a :: as).take (i + 1) = a :: as.take i) ∧
    (∀ {α : Type} {l : List α}, l.take 0 = []) ∧
    (∀ {α : Type} {i : Nat}, ([] : List α).take i = []) ∧
    (∀ {α : Type} {i : Nat}, ([] : List α).drop i = []) ∧
    (∀ {α : Type} {a : α} {as bs : List α}, (a :: as) ++ bs = a :: (as ++ bs)) ∧
    (∀ {α : Type} (as : List α), [] ++ as = as) ∧
    (∀ {α : Type} (as : List α), as ++ [] = as) ∧
    (∀ {α : Type} {a : α} {as : List α}, (a :: as).length = as.length + 1) ∧
    (∀ {α : Type}, ([] : List α).length = 0) ∧
    (∀ (n : Nat), 0 + n = n) ∧
    (∀ (h : Decidable True), @decide True h = true) ∧
    (∀ (h : Decidable False), @decide False h = false) ∧
    (∀ {α : Type} {a : α}, (some a).isNone = false) ∧
    (∀ {α : Type}, (none : Option α).isNone = true) ∧
    ((false = true) = False) ∧
    (∀ {α : Type} {a : α} {l : List α}, (a :: l)[0]? = some a) ∧
    (∀ {α : Type} {a : α} {i : Nat} {l : List α}, (a :: l)[i + 1]? = l[i]?) ∧
    (∀ (n : Nat), n ≤ n) ∧
    (∀ (n : Nat), n + 0 = n) ∧
    (∀ (n : Nat), 0 ≤ (n : Int)) ∧
    (∀ (n : Nat), (n : Int).toNat = n) ∧
    (∀ {G : List (Nat × List V)} {fr : Fr} {σ : St} {K : V → St → Prop} {x}, vop G (.mov x) fr σ K = (K (x.ev fr) σ)) ∧
    (∀ {G : List (Nat × List V)} {fr : Fr} {σ : St} {K : V → St → Prop} {a b c}, vop G (.pick c a b) fr σ K = (match c.ev fr with
    | .bool t => K (bif t then a.ev fr else b.ev fr) σ
    | _ => False)) ∧
    (∀ {G : List (Nat × List V)} {fr : Fr} {σ : St} {K : V → St → Prop} {e z}, vop G (.alloc e z) fr σ K = (K (.ref (some (σ.objs.length, 0))) { σ with objs := σ.objs ++ [z], tys := σ.tys ++ [e] })) ∧
    (∀ {G : List (Nat × List V)} {fr : Fr} {σ : St} {K : V → St → Prop} {e x}, vop G (.box e x) fr σ K = ((x.ev fr).notTup = true ∧ K (.ref (some (σ.objs.length, 0))) { σ with objs := σ.objs ++ [(x.ev fr).cells], tys := σ.tys ++ [e] })) ∧
    (∀ {G : List (Nat × List V)} {fr : Fr} {σ : St} {K : V → St → Prop} {ps z}, vop G (.build z ps) fr σ K = (match fillV z (ps.map fun p => (p.1.1, p.1.2, p.2.ev fr)) with
    | some cs => K (.agg cs) σ
    | none => False)) ∧
    (∀ {G : List (Nat × List V)} {fr : Fr} {σ : St} {K : V → St → Prop} {ps sz}, vop G (.bslc sz ps) fr σ K = ((∀ x ∈ ps.map (·.ev fr), x.cells.length = sz ∧ x.notTup = true) ∧ K (.slc true (ps.map (·.ev fr)) .full) σ)) ∧
    (∀ {G : List (Nat × List V)} {fr : Fr} {σ : St} {K : V → St → Prop} {x}, vop G (.loadL x) fr σ K = (match vcells G σ (x.ev fr) with
    | some (v :: _) => K v σ
    | _ => False)) ∧
    (∀ {G : List (Nat × List V)} {fr : Fr} {σ : St} {K : V → St → Prop} {n x}, vop G (.loadA n x) fr σ K = (match vcells G σ (x.ev fr) with
    | some cs => n ≤ cs.length ∧ K (.agg (cs.take n)) σ
    | none => False)) ∧
    (∀ {G : List (Nat × List V)} {fr : Fr} {σ : St} {K : V → St → Prop} {n v x}, vop G (.store n x v) fr σ K = (match x.ev fr with
    | .ref (some (o, off)) => match σ.objs[o]? with
      | some cs => (v.ev fr).cells.length = n ∧ (v.ev fr).notTup = true ∧ off + n ≤ cs.length ∧ K .und { σ with objs := σ.objs.set o (spl cs off (v.ev fr).cells) }
      | none => False
    | _ => False)) ∧
    (∀ {G : List (Nat × List V)} {fr : Fr} {σ : St} {K : V → St → Prop} {x}, vop G (.nilck x) fr σ K = (match x.ev fr with
    | .ref (some a) => K (.ref (some a)) σ
    | .gref g off => K (.gref g off) σ
    | .eptr cs => K (.eptr cs) σ
    | _ => False)) ∧
    (∀ {G : List (Nat × List V)} {fr : Fr} {σ : St} {K : V → St → Prop} {op x y}, vop G (.bin op x y) fr σ K = (vbin op (x.ev fr) (y.ev fr) σ K)) ∧
    (∀ {G : List (Nat × List V)} {fr : Fr} {σ : St} {K : V → St → Prop} {neg x y}, vop G (.eqB neg x y) fr σ K = (match x.ev fr, y.ev fr with
    | .bool a, .bool b => K (.bool (if neg then !(a == b) else a == b)) σ
    | _, _ => False)) ∧
    (∀ {G : List (Nat × List V)} {fr : Fr} {σ : St} {K : V → St → Prop} {neg q x y}, vop G (.eqN q neg x y) fr σ K = (match (x.ev fr).isNil q, (y.ev fr).isNil q with
    | some a, some true => K (.bool (if neg then !a else a)) σ
    | _, _ => False)) ∧
    (∀ {G : List (Nat × List V)} {fr : Fr} {σ : St} {K : V → St → Prop} {op x}, vop G (.un op x) fr σ K = (vun op (x.ev fr) σ K)) ∧
    (∀ {G : List (Nat × List V)} {fr : Fr} {σ : St} {K : V → St → Prop} {k x}, vop G (.cvI k x) fr σ K = (match x.ev fr with
    | .int _ n => K (.int k (k.wrap n)) σ
    | _ => False)) ∧
    (∀ {G : List (Nat × List V)} {fr : Fr} {σ : St} {K : V → St → Prop} {x}, vop G (.cvS x) fr σ K = (match x.ev fr with
    | .str s => K (.str s) σ
    | _ => False)) ∧
    (∀ {G : List (Nat × List V)} {fr : Fr} {σ : St} {K : V → St → Prop} {x}, vop G (.cvBS x) fr σ K = (match x.ev fr with
    | .slc false _ _ => K (.str []) σ
    | .slc true xs _ => match vbytes xs with
      | some s => K (.str s) σ
      | none => False
    | _ => False)) ∧
    (∀ {G : List (Nat × List V)} {fr : Fr} {σ : St} {K : V → St → Prop} {x}, vop G (.cvSB x) fr σ K = (match x.ev fr with
    | .str s => s.length ≤ big ∧ K (.slc true (bytesV s) .no) σ
    | _ => False)) ∧
    (∀ {G : List (Nat × List V)} {fr : Fr} {σ : St} {K : V → St → Prop} {x}, vop G (.cvIS x) fr σ K = (match x.ev fr with
    | .int _ n => K (.str (Utf8.encode n).data.toList) σ
    | _ => False)) ∧
    (∀ {G : List (Nat × List V)} {fr : Fr} {σ : St} {K : V → St → Prop} {t x}, vop G (.mkI t x) fr σ K = (K (.iface t (x.ev fr)) σ)) ∧
    (∀ {G : List (Nat × List V)} {fr : Fr} {σ : St} {K : V → St → Prop} {cs f fs}, vop G (.mkF f fs cs) fr σ K = (K (.fn f (fs.map (·.ev fr)) (cs.map (·.ev fr))) σ)) ∧
    (∀ {G : List (Nat × List V)} {fr : Fr} {σ : St} {K : V → St → Prop} {hi lo x}, vop G (.slS x lo hi) fr σ K = (match x.ev fr with
    | .str s => vcut s.length (lo.map (·.ev fr)) (hi.map (·.ev fr)) (cutSK K σ s)
    | _ => False)) ∧
    (∀ {G : List (Nat × List V)} {fr : Fr} {σ : St} {K : V → St → Prop} {hi lo sz x}, vop G (.slV sz x lo hi) fr σ K = (match x.ev fr with
    | .slc true xs _ => (∀ y ∈ xs, y.cells.length = sz) ∧ vcut xs.length (lo.map (·.ev fr)) (hi.map (·.ev fr)) (cutVK K σ xs)
    | .slc false _ _ => vcut 0 (lo.map (·.ev fr)) (hi.map (·.ev fr)) (cutNK K σ)
    | _ => False)) ∧
    (∀ {G : List (Nat × List V)} {fr : Fr} {σ : St} {K : V → St → Prop} {off x}, vop G (.fadr off x) fr σ K = (match x.ev fr with
    | .ref (some (o, a)) => K (.ref (some (o, a + off))) σ
    | .gref g a => K (.gref g (a + off)) σ
    | .eptr cs => off ≤ cs.length ∧ K (.eptr (cs.drop off)) σ
    | _ => False)) ∧
    (∀ {G : List (Nat × List V)} {fr : Fr} {σ : St} {K : V → St → Prop} {off x}, vop G (.fldL off x) fr σ K = (match x.ev fr with
    | .agg cs => match cs.drop off with
      | v :: _ => K v σ
      | [] => False
    | _ => False)) ∧
    (∀ {G : List (Nat × List V)} {fr : Fr} {σ : St} {K : V → St → Prop} {n off x}, vop G (.fldA off n x) fr σ K = (match x.ev fr with
    | .agg cs => K (.agg ((cs.drop off).take n)) σ
    | _ => False)) ∧
    (∀ {G : List (Nat × List V)} {fr : Fr} {σ : St} {K : V → St → Prop} {i sz x}, vop G (.iadV sz x i) fr σ K = (match x.ev fr, i.ev fr with
    | .slc _ xs _, .int _ n => (0 ≤ n ∧ n < xs.length) ∧ (∀ y ∈ xs, y.cells.length = sz) ∧ K (.eptr (xs.getD n.toNat .und).cells) σ
    | _, _ => False)) ∧
    (∀ {G : List (Nat × List V)} {fr : Fr} {σ : St} {K : V → St → Prop} {i len sz x}, vop G (.iadA len sz x i) fr σ K = (match x.ev fr, i.ev fr with
    | .ref (some (o, a)), .int _ n => (0 ≤ n ∧ n < len) ∧ K (.ref (some (o, a + n.toNat * sz))) σ
    | .gref g a, .int _ n => (0 ≤ n ∧ n < len) ∧ K (.gref g (a + n.toNat * sz)) σ
    | .eptr cs, .int _ n => (0 ≤ n ∧ n < len) ∧ n.toNat * sz ≤ cs.length ∧ K (.eptr (cs.drop (n.toNat * sz))) σ
    | _, _ => False)) ∧
    (∀ {G : List (Nat × List V)} {fr : Fr} {σ : St} {K : V → St → Prop} {i x}, vop G (.idxS x i) fr σ K = (match x.ev fr, i.ev fr with
    | .str s, .int _ n => (0 ≤ n ∧ n < s.length) ∧ K (.int .u8 ((s.getD n.toNat 0).toNat : Int)) σ
    | _, _ => False)) ∧
    (∀ {G : List (Nat × List V)} {fr : Fr} {σ : St} {K : V → St → Prop} {i len x}, vop G (.idxL len x i) fr σ K = (match x.ev fr, i.ev fr with
    | .agg cs, .int _ n => (0 ≤ n ∧ n < len ∧ n < cs.length) ∧ K (cs.getD n.toNat .und) σ
    | _, _ => False)) ∧
    (∀ {G : List (Nat × List V)} {fr : Fr} {σ : St} {K : V → St → Prop} {i len sz x}, vop G (.idxA len sz x i) fr σ K = (match x.ev fr, i.ev fr with
    | .agg cs, .int _ n => (0 ≤ n ∧ n < len) ∧ K (.agg ((cs.drop (n.toNat * sz)).take sz)) σ
    | _, _ => False)) ∧
    (∀ {G : List (Nat × List V)} {fr : Fr} {σ : St} {K : V → St → Prop} {t x}, vop G (.tas t x) fr σ K = (match x.ev fr with
    | .iface t' v => t' = t ∧ K v σ
    | _ => False)) ∧
    (∀ {G : List (Nat × List V)} {fr : Fr} {σ : St} {K : V → St → Prop} {t x z}, vop G (.tasOk t z x) fr σ K = (match x.ev fr with
    | .iface t' v => if t' = t then K (.tup [v, .bool true]) σ else K (.tup [z, .bool false]) σ
    | .nilI => K (.tup [z, .bool false]) σ
    | _ => False)) ∧
    (∀ {G : List (Nat × List V)} {fr : Fr} {σ : St} {K : V → St → Prop} {i x}, vop G (.ext x i) fr σ K = (match x.ev fr with
    | .tup vs => match vs[i]? with
      | some v => K v σ
      | none => False
    | _ => False)) ∧
    (∀ {G : List (Nat × List V)} {fr : Fr} {σ : St} {K : V → St → Prop} {x}, vop G (.lenS x) fr σ K = (match x.ev fr with
    | .str s => K (.int .i64 s.length) σ
    | _ => False)) ∧
    (∀ {G : List (Nat × List V)} {fr : Fr} {σ : St} {K : V → St → Prop} {x}, vop G (.lenV x) fr σ K = (match x.ev fr with
    | .slc _ xs _ => K (.int .i64 xs.length) σ
    | _ => False)) ∧
    (∀ {G : List (Nat × List V)} {fr : Fr} {σ : St} {K : V → St → Prop} {n}, vop G (.lenA n) fr σ K = (K (.int .i64 n) σ)) ∧
    (∀ {G : List (Nat × List V)} {fr : Fr} {σ : St} {K : V → St → Prop} {e sz x y z0}, vop G (.app e sz z0 x y) fr σ K = (match y.ev fr with
    | .slc _ ys _ => vapp e sz σ (x.ev fr) ys K
    | _ => False)) ∧
    (∀ {G : List (Nat × List V)} {fr : Fr} {σ : St} {K : V → St → Prop} {e x y}, vop G (.appS e x y) fr σ K = (match y.ev fr with
    | .str s => vapp e 1 σ (x.ev fr) (bytesV s) K
    | _ => False)) ∧
    (∀ {G : List (Nat × List V)} {fr : Fr} {σ : St} {K : V → St → Prop} {xs}, vop G (.mx xs) fr σ K = (match xs.map (·.ev fr) with
    | [a, b] => match vmax2 a b with
      | some v => K v σ
      | none => False
    | _ => False)) ∧
    (∀ {G : List (Nat × List V)} {fr : Fr} {σ : St} {K : V → St → Prop} {xs}, vop G (.mn xs) fr σ K = (match xs.map (·.ev fr) with
    | [a, b] => match vmin2 a b with
      | some v => K v σ
      | none => False
    | _ => False)) ∧
    (∀ {G : List (Nat × List V)} {fr : Fr} {σ : St} {K : V → St → Prop}, vop G (.mkM) fr σ K = (K (.mp (some σ.maps.length)) { σ with maps := σ.maps ++ [[]] })) ∧
    (∀ {G : List (Nat × List V)} {fr : Fr} {σ : St} {K : V → St → Prop} {x}, vop G (.lenM x) fr σ K = (match x.ev fr with
    | .mp none => K (.int .i64 0) σ
    | .mp (some r) => match σ.maps[r]? with
      | some es => K (.int .i64 es.length) σ
      | none => False
    | _ => False)) ∧
    (∀ {G : List (Nat × List V)} {fr : Fr} {σ : St} {K : V → St → Prop} {i ok q x z}, vop G (.look q z ok x i) fr σ K = ((i.ev fr).isK q = true ∧ match x.ev fr with
    | .mp none => K (if ok then .tup [z, .bool false] else z) σ
    | .mp (some r) => match σ.maps[r]? with
      | some es => (∀ e ∈ es, V.kin (i.ev fr) e.1 = true) ∧ (match mfind (i.ev fr) es with
        | some v => K (if ok then .tup [v, .bool true] else v) σ
        | none => K (if ok then .tup [z, .bool false] else z) σ)
      | none => False
    | _ => False)) ∧
    (∀ {G : List (Nat × List V)} {fr : Fr} {σ : St} {K : V → St → Prop} {i q v x}, vop G (.mset q x i v) fr σ K = ((i.ev fr).isK q = true ∧ match x.ev fr with
    | .mp (some r) => match σ.maps[r]? with
      | some es => (∀ e ∈ es, V.kin (i.ev fr) e.1 = true) ∧ K .und { σ with maps := σ.maps.set r (mput (i.ev fr) (v.ev fr) es) }
      | none => False
    | _ => False)) ∧
    (∀ {G : List (Nat × List V)} {fr : Fr} {σ : St} {K : V → St → Prop} {x}, vop G (.cvUP x) fr σ K = (match x.ev fr with
    | .ref (some (o, 0)) => match σ.objs[o]? with
      | some cs => 0 < cs.length ∧ K (.ref (some (o, 0))) σ
      | none => False
    | .ref none => K (.ref none) σ
    | _ => False)) ∧
    (∀ {G : List (Nat × List V)} {fr : Fr} {σ : St} {K : V → St → Prop} {n u x}, vop G (.cvPU u n x) fr σ K = (match x.ev fr with
    | .ref (some (o, 0)) => match σ.objs[o]? with
      | some cs => σ.tys[o]? = some u ∧ n ≤ cs.length ∧ K (.ref (some (o, 0))) σ
      | none => False
    | .ref none => K (.ref none) σ
    | _ => False)) ∧
    (∀ {G : List (Nat × List V)} {fr : Fr} {σ : St} {K : V → St → Prop} {neg x y}, vop G (.eqP neg x y) fr σ K = (match x.ev fr, y.ev fr with
    | .ref (some a), .ref (some b) => a = b ∧ K (.bool !neg) σ
    | _, _ => False)) ∧
    (∀ {G : List (Nat × List V)} {fr : Fr} {σ : St} {K : V → St → Prop} {x}, vop G (.usd x) fr σ K = (match x.ev fr with
    | .slc false _ _ => K (.ref none) σ
    | .slc true xs (.own i) => match σ.tts[i]? with
      | some e => σ.toks[i]? = some xs.length ∧ xs ≠ [] ∧ (∀ y ∈ xs, y.cells.length = 1 ∧ y.one = true) ∧ K (.sptr xs e) σ
      | none => False
    | _ => False)) ∧
    (∀ {G : List (Nat × List V)} {fr : Fr} {σ : St} {K : V → St → Prop} {n u x}, vop G (.ustr u x n) fr σ K = (match x.ev fr, n.ev fr with
    | .ref none, .int .i64 n => n = 0 ∧ K (.str []) σ
    | .sptr cs e, .int .i64 n => match vbytes cs with
      | some s => e = u ∧ n = s.length ∧ s.length ≤ big ∧ s ≠ [] ∧ K (.str s) σ
      | none => False
    | _, _ => False)) ∧
    (∀ {G : List (Nat × List V)} {fr : Fr} {σ : St} {K : V → St → Prop} {c x}, vop G (.ixB x c) fr σ K = (match x.ev fr, c.ev fr with
    | .str s, .int .u8 n => K (.int .i64 (ixByte s n)) σ
    | _, _ => False)) ∧
    (∀ {σ : St} {K : V → St → Prop} {k k' a b}, vbin .add (.int k a) (.int k' b) σ K = (k = k' ∧ (K (.int k (k.wrap (a + b))) σ))) ∧
    (∀ {σ : St} {K : V → St → Prop} {k k' a b}, vbin .sub (.int k a) (.int k' b) σ K = (k = k' ∧ (K (.int k (k.wrap (a - b))) σ))) ∧
    (∀ {σ : St} {K : V → St → Prop} {k k' a b}, vbin .mul (.int k a) (.int k' b) σ K = (k = k' ∧ (K (.int k (k.wrap (a * b))) σ))) ∧
    (∀ {σ : St} {K : V → St → Prop} {k k' a b}, vbin .quo (.int k a) (.int k' b) σ K = (k = k' ∧ (b ≠ 0 ∧ K (.int k (k.wrap (a.tdiv b))) σ))) ∧
    (∀ {σ : St} {K : V → St → Prop} {k k' a b}, vbin .rem (.int k a) (.int k' b) σ K = (k = k' ∧ (b ≠ 0 ∧ K (.int k (a.tmod b)) σ))) ∧
    (∀ {σ : St} {K : V → St → Prop} {k k' a b}, vbin .and (.int k a) (.int k' b) σ K = (k = k' ∧ (K (.int k (ibits .and k a b)) σ))) ∧
    (∀ {σ : St} {K : V → St → Prop} {k k' a b}, vbin .or (.int k a) (.int k' b) σ K = (k = k' ∧ (K (.int k (ibits .or k a b)) σ))) ∧
    (∀ {σ : St} {K : V → St → Prop} {k k' a b}, vbin .xor (.int k a) (.int k' b) σ K = (k = k' ∧ (K (.int k (ibits .xor k a b)) σ))) ∧
    (∀ {σ : St} {K : V → St → Prop} {k k' a b}, vbin .andNot (.int k a) (.int k' b) σ K = (k = k' ∧ (K (.int k (ibits .andNot k a b)) σ))) ∧
    (∀ {σ : St} {K : V → St → Prop} {k k' a b}, vbin .eql (.int k a) (.int k' b) σ K = (k = k' ∧ (K (.bool (a == b)) σ))) ∧
    (∀ {σ : St} {K : V → St → Prop} {k k' a b}, vbin .neq (.int k a) (.int k' b) σ K = (k = k' ∧ (K (.bool (a != b)) σ))) ∧
    (∀ {σ : St} {K : V → St → Prop} {k k' a b}, vbin .lss (.int k a) (.int k' b) σ K = (k = k' ∧ (K (.bool (decide (a < b))) σ))) ∧
    (∀ {σ : St} {K : V → St → Prop} {k k' a b}, vbin .leq (.int k a) (.int k' b) σ K = (k = k' ∧ (K (.bool (decide (a ≤ b))) σ))) ∧
    (∀ {σ : St} {K : V → St → Prop} {k k' a b}, vbin .gtr (.int k a) (.int k' b) σ K = (k = k' ∧ (K (.bool (decide (a > b))) σ))) ∧
    (∀ {σ : St} {K : V → St → Prop} {k k' a b}, vbin .geq (.int k a) (.int k' b) σ K = (k = k' ∧ (K (.bool (decide (a ≥ b))) σ))) ∧
    (∀ {σ : St} {K : V → St → Prop} {k k' a b}, vbin .shl (.int k a) (.int k' b) σ K = (0 ≤ b ∧ K (.int k (k.wrap (a * 2 ^ (min b.toNat k.bits)))) σ)) ∧
    (∀ {σ : St} {K : V → St → Prop} {k k' a b}, vbin .shr (.int k a) (.int k' b) σ K = (0 ≤ b ∧ K (.int k (a.fdiv (2 ^ (min b.toNat k.bits)))) σ)) ∧
    (∀ {σ : St} {K : V → St → Prop} {a b}, vbin .add (.str a) (.str b) σ K = (a.length + b.length ≤ big ∧ K (.str (a ++ b)) σ)) ∧
    (∀ {σ : St} {K : V → St → Prop} {a b}, vbin .eql (.str a) (.str b) σ K = (K (.bool (a == b)) σ)) ∧
    (∀ {σ : St} {K : V → St → Prop} {a b}, vbin .neq (.str a) (.str b) σ K = (K (.bool !(a == b)) σ)) ∧
    (∀ {σ : St} {K : V → St → Prop} {a b}, vbin .lss (.str a) (.str b) σ K = (K (.bool (Op.bytesLess a b)) σ)) ∧
    (∀ {σ : St} {K : V → St → Prop} {a b}, vbin .leq (.str a) (.str b) σ K = (K (.bool (Op.bytesLess a b || a == b)) σ)) ∧
    (∀ {σ : St} {K : V → St → Prop} {a b}, vbin .gtr (.str a) (.str b) σ K = (K (.bool !(Op.bytesLess a b || a == b)) σ)) ∧
    (∀ {σ : St} {K : V → St → Prop} {a b}, vbin .geq (.str a) (.str b) σ K = (K (.bool !(Op.bytesLess a b)) σ)) ∧
    (∀ {σ : St} {K : V → St → Prop} {k n}, vun .neg (.int k n) σ K = (K (.int k (k.wrap (0 - n))) σ)) ∧
    (∀ {σ : St} {K : V → St → Prop} {k n}, vun .xor (.int k n) σ K = (K (.int k (ibits .xor k (if k.signed then -1 else k.max) n)) σ)) ∧
    (∀ {σ : St} {K : V → St → Prop} {b}, vun .not (.bool b) σ K = (K (.bool !b) σ)) ∧
    (∀ {G : List (Nat × List V)} {σ : St} {o off : Nat}, vcells G σ (.ref (some (o, off))) = (σ.objs[o]?).map (·.drop off)) ∧
    (∀ {G : List (Nat × List V)} {σ : St} {g off : Nat}, vcells G σ (.gref g off) = (gfind G g).map (·.drop off)) ∧
    (∀ {G : List (Nat × List V)} {σ : St} {cs : List V}, vcells G σ (.eptr cs) = some cs) ∧
    (∀ {len : Nat} {K : Nat → Nat → Prop}, vcut len (none) (none) K = (K 0 len)) ∧
    (∀ {len : Nat} {K : Nat → Nat → Prop} {k l}, vcut len (some (.int k l)) (none) K = ((0 ≤ l ∧ l ≤ len) ∧ K l.toNat len)) ∧
    (∀ {len : Nat} {K : Nat → Nat → Prop} {k' h}, vcut len (none) (some (.int k' h)) K = ((0 ≤ h ∧ h ≤ len) ∧ K 0 h.toNat)) ∧
    (∀ {len : Nat} {K : Nat → Nat → Prop} {k k' l h}, vcut len (some (.int k l)) (some (.int k' h)) K = ((0 ≤ h ∧ h ≤ len) ∧ (0 ≤ l ∧ l ≤ h) ∧ K l.toNat h.toNat)) ∧
    (∀ {K : V → St → Prop} {σ : St} {s : List UInt8} {l h : Nat}, cutSK K σ s l h = K (.str (cut s l h)) σ) ∧
    (∀ {K : V → St → Prop} {σ : St} {xs : List V} {l h : Nat}, cutVK K σ xs l h = K (.slc true (cut xs l h) .no) σ) ∧
    (∀ {K : V → St → Prop} {σ : St} {l h : Nat}, cutNK K σ l h = K (.slc false [] .no) σ) ∧
    (∀ {cs : List V}, fillV cs [] = some cs) ∧
    (∀ {cs : List V} {off sz : Nat} {v : V} {r : List (Nat × Nat × V)}, fillV cs ((off, sz, v) :: r) = if v.cells.length = sz ∧ v.notTup = true ∧ off + sz ≤ cs.length then fillV (spl cs off v.cells) r else none) ∧
    (∀ {cs vs : List V} {off : Nat}, spl cs off vs = cs.take off ++ vs ++ cs.drop (off + vs.length)) ∧
    (∀ {a}, V.isNil .p (.ref a) = some a.isNone) ∧
    (∀ {x1 x2}, V.isNil .p (.gref x1 x2) = some false) ∧
    (∀ {x1}, V.isNil .p (.eptr x1) = some false) ∧
    (∀ {x1 x2}, V.isNil .p (.sptr x1 x2) = some false) ∧
    (∀ {nn x1 x2}, V.isNil .s (.slc nn x1 x2) = some !nn) ∧
    (V.isNil .i (.nilI) = some true) ∧
    (∀ {x1 x2}, V.isNil .i (.iface x1 x2) = some false) ∧
    (V.isNil .f (.nilF) = some true) ∧
    (∀ {x1 x2 x3}, V.isNil .f (.fn x1 x2 x3) = some false) ∧
    (∀ {r}, V.isNil .m (.mp r) = some r.isNone) ∧
    (∀ {xs : List V} {tk : Tk} {i : Int}, isLenV (.slc true xs tk) i = (i = xs.length)) ∧
    (∀ {xs : List V} {tk : Tk} {i : Int}, isLenV (.slc false xs tk) i = (i = 0)) ∧
    (∀ {sz : Nat} {y : V} {tk : Tk}, isOneV sz (.slc true [y] tk) = (y.cells.length = sz)) ∧
    (∀ {K : VEx → Fr → St → Prop} {t : VTail} {o a : Nat} {fr : Fr} {v8 : V} {σ : St}, tailEnd K t o a fr v8 σ = (match σ.objs[o]? with
  | some cs => a + t.off + 1 ≤ cs.length ∧ K .norm (upd (upd (upd fr t.d8 v8) t.d9 (.eptr (t.v.ev fr).cells)) t.d10 (.ref (some (o, a + t.off)))) { σ with objs := σ.objs.set o (spl cs (a + t.off) [v8]) }
  | none => False)) ∧
    (∀ {K : VEx → Fr → St → Prop} {t : VTail} {fr : Fr} {σ : St}, tailW K t fr σ = (match t.n.ev fr, t.s.ev fr with
  | .int _ i, .ref (some (o, a)) => isLenV (t.x.ev fr) i ∧ isOneV t.sz (t.y.ev fr) ∧ vapp t.e t.sz σ (t.x.ev fr) [t.v.ev fr] (tailEnd K t o a fr)
  | _, _ => False)) ∧
    (zI = .int .i64 0) ∧
    (zS = .str []) ∧
    (zL = .slc false [] .no) ∧
    (zB = .bool false) ∧
    (∀ {d x : Nat}, iM d x = ⟨some d, none, .op (.mov (.t x))⟩) ∧
    (∀ {d : Nat} {o : VOp}, iO d o = ⟨some d, none, .op o⟩) ∧
    (∀ {d g : Nat} {b : Bool} {o : VOp}, iG d g b o = ⟨some d, some (g, b), .op o⟩) ∧
    (∀ {o : VOp}, iN o = ⟨none, none, .op o⟩) ∧
    (∀ {d f : Nat} {as : List Opd}, iC d f as = ⟨some d, none, .call f as⟩) ∧
    (∀ {d g : Nat} {b : Bool} {f : Nat} {as : List Opd}, iH d g b f as = ⟨some d, some (g, b), .call f as⟩) ∧
    (∀ {d : Nat} {op : BinOp} {x y : Nat}, iB d op x y = ⟨some d, none, .op (.bin op (.t x) (.t y))⟩) ∧
    (∀ {d : Nat} {op : BinOp} {x : Nat} {k : IntKind} {n : Int}, iK d op x k n = ⟨some d, none, .op (.bin op (.t x) (.c (.int k n)))⟩) ∧
    (∀ {d o x : Nat}, iF d o x = ⟨some d, none, .op (.fadr o (.t x))⟩) ∧
    (∀ {d x : Nat}, iL d x = ⟨some d, none, .op (.loadL (.t x))⟩) ∧
    (∀ {d n x : Nat}, iA d n x = ⟨some d, none, .op (.loadA n (.t x))⟩) ∧
    (∀ {n x v : Nat}, iS n x v = ⟨none, none, .op (.store n (.t x) (.t v))⟩) ∧
    (∀ {d x i : Nat}, iE d x i = ⟨some d, none, .op (.ext (.t x) i)⟩) ∧
    (∀ {d : Nat} {k : IntKind} {n : Int}, iI d k n = ⟨some d, none, .op (.mov (.c (.int k n)))⟩) ∧
    (∀ {d g : Nat} {b : Bool} {x : Nat}, iP d g b x = ⟨some d, some (g, b), .op (.mov (.t x))⟩) ∧
    (∀ {d g x : Nat}, iT d g x = ⟨some d, none, .op (.pick (.t g) (.c (.bool true)) (.t x))⟩) ∧
    (∀ {d g x : Nat}, iU d g x = ⟨some d, none, .op (.pick (.t g) (.t x) (.c (.bool false)))⟩) ∧
    (∀ {d g : Nat} {b : Bool} {op : BinOp} {x : Nat} {k : IntKind} {n : Int}, iJ d g b op x k n = ⟨some d, some (g, b), .op (.bin op (.t x) (.c (.int k n)))⟩) ∧
    (∀ {d g : Nat} {b : Bool} {op : BinOp} {x y : Nat}, iR d g b op x y = ⟨some d, some (g, b), .op (.bin op (.t x) (.t y))⟩) ∧
    (∀ {l : List VItem} {c : VCode}, sr l c = .seq (.reg l) c) ∧
    (∀ (a : Int), (a != a) = false) ∧ (∀ (a : Bool), (a != a) = false) ∧ (∀ (a : List UInt8), (a != a) = false) :=
  ⟨rfl, rfl, rfl, rfl, rfl, rfl, rfl, rfl, rfl, rfl, rfl, rfl, rfl, rfl, rfl, rfl, rfl, rfl, rfl, rfl, rfl, rfl, rfl, rfl, rfl, rfl, rfl, rfl, rfl, rfl, rfl, rfl, rfl, rfl, rfl, rfl, rfl, rfl, rfl, rfl, rfl, rfl, rfl, rfl, rfl, rfl, rfl, rfl, rfl, rfl, rfl, rfl, rfl, rfl, rfl, rfl, rfl, rfl, (by simp [sameV]), (by simp [sameV]), rfl, rfl, rfl, rfl, rfl, rfl, rfl, rfl, rfl, rfl, rfl, rfl, rfl, rfl, rfl, rfl, rfl, (by simp [sameK]), rfl, rfl, rfl, rfl, rfl, rfl, rfl, rfl, rfl, rfl, rfl, rfl, rfl, rfl, rfl, rfl, rfl, rfl, rfl, rfl, rfl, rfl, rfl, rfl, rfl, rfl, rfl, rfl, rfl, rfl, rfl, @chooseK_true, @chooseK_false, @chooseK_not, @List.getD_cons_zero, @List.getD_cons_succ, @List.getD_nil, @cond_true, @cond_false, (fun b x y => by cases b <;> rfl), @beq_true, @beq_false, @Bool.not_true, @Bool.not_false, @true_and, @and_true, @and_self, @List.map_cons, @List.map_nil, @Option.map_some, @Option.map_none, @List.length_append, @List.drop_succ_cons, @List.drop_zero, @List.take_succ_cons, @List.take_zero, @List.take_nil, @List.drop_nil, @List.cons_append, @List.nil_append, @List.append_nil, @List.length_cons, @List.length_nil, @Nat.zero_add, @decide_true, @decide_false, @Option.isNone_some, @Option.isNone_none, @Bool.false_eq_true, @List.getElem?_cons_zero, @List.getElem?_cons_succ, @Nat.le_refl, @Nat.add_zero, @Int.natCast_nonneg, @Int.toNat_natCast, rfl, rfl, rfl, rfl, rfl, rfl, rfl, rfl, rfl, rfl, rfl, rfl, rfl, rfl, rfl, rfl, rfl, rfl, rfl, rfl, rfl, rfl, rfl, rfl, rfl, rfl, rfl, rfl, rfl, rfl, rfl, rfl, rfl, rfl, rfl, rfl, rfl, rfl, rfl, rfl, rfl, rfl, rfl, rfl, rfl, rfl, rfl, rfl, rfl, rfl, rfl, rfl, rfl, rfl, rfl, rfl, rfl, rfl, rfl, rfl, rfl, rfl, rfl, rfl, rfl, rfl, rfl, rfl, rfl, rfl, rfl, rfl, rfl, rfl, rfl, rfl, rfl, rfl, rfl, rfl, rfl, rfl, rfl, rfl, rfl, rfl, rfl, rfl, rfl, rfl, rfl, rfl, rfl, rfl, rfl, rfl, rfl, rfl, rfl, rfl, rfl, rfl, rfl, rfl, rfl, rfl, rfl, rfl, rfl, rfl, rfl, rfl, rfl, rfl, rfl, rfl, rfl, rfl, rfl, rfl, rfl, rfl, rfl, rfl, rfl, rfl, rfl, rfl, rfl, rfl, @bne_self_eq_false Int _ _, @bne_self_eq_false Bool _ _, @bne_self_eq_false (List UInt8) _ _⟩
end Go.Vs

namespace Go.Vs

/-- Each object and each row has its type. -/
def St.wf (σ : St) : Prop := σ.tys.length = σ.objs.length ∧ σ.tts.length = σ.toks.length

theorem cfunc_callable {P : Program} {f : FuncId} {vf : VFunc} (h : cfunc P f = some vf) : callable P f = true := by
  simp only [cfunc, Option.bind_eq_bind, Option.bind_eq_some_iff] at h
  obtain ⟨fn, hfn, b, hb, c, _, rs, _, h⟩ := h
  split at h
  · rename_i hn
    unfold callable
    rw [hfn]
    simp [hb]
    simpa using hn
  · cases h

theorem C_wf {X : Ctx} {f : FuncId} {args : List V} {σ : St} {Q : Out → St → Prop} (hc : callable X.P f = true) (h : σ.wf → C X f args σ Q) : C X f args σ Q :=
  ⟨hc, fun μ w us h1 h2 h3 => (h ⟨h2.tys, h2.tts⟩).2 μ w us h1 h2 h3⟩

/-- All that the call made is forgotten. -/
theorem exitCut {σ0 : St} {O xo : List (List V)} {M xm : List (List (V × V))} {T xt : List Nat} {Y xy TT xtt : List TypeId} {Q : Out → St → Prop} {out : Out}
    (h1 : O.length = σ0.objs.length) (h2 : M.length = σ0.maps.length) (h3 : T.length = σ0.toks.length) (h4 : Y.length = O.length) (h5 : TT.length = T.length)
    (hf : (out.clean T.length).fits O.length M.length T.length = true)
    (ho : ∀ (o : Nat) (cs : List V), O[o]? = some cs → σ0.objs[o]? = some cs ∨ fitsL O.length M.length T.length cs = true)
    (hm : ∀ (r : Nat) (es : List (V × V)), M[r]? = some es → σ0.maps[r]? = some es ∨ ∀ e ∈ es, e.1.fits O.length M.length T.length = true ∧ e.2.fits O.length M.length T.length = true)
    (h : Q (out.clean T.length) ⟨O, M, T, Y, TT⟩) : ExitOk σ0 Q out ⟨O ++ xo, M ++ xm, T ++ xt, Y ++ xy, TT ++ xtt⟩ := by
  refine .inr ⟨O.length, M.length, T.length, by omega, by omega, by omega, by simp, by simp, by simp, hf, fun o cs hlt hc => ho o cs ?_, fun r es hlt hc => hm r es ?_, ?_⟩
  · rwa [List.getElem?_append_left hlt] at hc
  · rwa [List.getElem?_append_left hlt] at hc
  · have e1 : (Y ++ xy).take O.length = Y := by rw [← h4]; simp
    have e2 : (TT ++ xtt).take T.length = TT := by rw [← h5]; simp
    simpa [e1, e2] using h

/-- Only objects were made. -/
theorem exitCutO {σ0 : St} {O xo : List (List V)} {M : List (List (V × V))} {T : List Nat} {Y xy TT : List TypeId} {Q : Out → St → Prop} {out : Out}
    (h1 : O.length = σ0.objs.length) (h2 : M.length = σ0.maps.length) (h3 : T.length = σ0.toks.length) (h4 : Y.length = O.length) (h5 : TT.length = T.length)
    (hf : (out.clean T.length).fits O.length M.length T.length = true)
    (ho : ∀ (o : Nat) (cs : List V), O[o]? = some cs → σ0.objs[o]? = some cs ∨ fitsL O.length M.length T.length cs = true)
    (hm : ∀ (r : Nat) (es : List (V × V)), M[r]? = some es → σ0.maps[r]? = some es ∨ ∀ e ∈ es, e.1.fits O.length M.length T.length = true ∧ e.2.fits O.length M.length T.length = true)
    (h : Q (out.clean T.length) ⟨O, M, T, Y, TT⟩) : ExitOk σ0 Q out ⟨O ++ xo, M, T, Y ++ xy, TT⟩ := by
  have := exitCut (xo := xo) (xm := []) (xt := []) (xy := xy) (xtt := []) h1 h2 h3 h4 h5 hf ho hm h
  simpa using this

end Go.Vs

namespace Go.Vs

structure VDefer where
  m : Nat
  a : VCode
  d : Nat
  gf : FuncId
  caps : List Opd
  b : VCode
  res : List RVar
  gm : Nat
  r : Nat
  x : Nat
  g : VCode

def gfr (caps : List V) (r x : Nat) (v : V) : Fr := upd (upd (args0 caps) r v) x v

/-- Behind the closure. -/
def GK (X : Ctx) (res : List RVar) (fr : Fr) (σ0 : St) (Q : Out → St → Prop) : VEx → Fr → St → Prop
  | .norm, _, σ | .ret, _, σ => rvarsK X.G res fr σ (finV σ0 Q σ)
  | .pan _, _, _ | .exit _, _, _ => False

/-- Behind the body. -/
def DK (X : Ctx) (vd : VDefer) (σ0 : St) (Q : Out → St → Prop) (caps : List V) : VEx → Fr → St → Prop
  | .norm, fr, σ | .ret, fr, σ => W X vd.g (GK X vd.res fr σ0 Q) (gfr caps vd.r vd.x .nilI) σ
  | .pan v, fr, σ => W X vd.g (GK X vd.res fr σ0 Q) (gfr caps vd.r vd.x v) σ
  | .exit _, _, _ => False

def AK (X : Ctx) (vd : VDefer) (σ0 : St) (Q : Out → St → Prop) : VEx → Fr → St → Prop
  | .norm, fr, σ => W X vd.b (DK X vd σ0 Q (vd.caps.map (·.ev fr))) (upd fr vd.d (.fn (.func vd.gf) [] (vd.caps.map (·.ev fr)))) σ
  | .ret, _, _ | .pan _, _, _ | .exit _, _, _ => False

section
variable {X : Ctx} {vd : VDefer} {σ0 : St} {Q : Out → St → Prop} {fr : Fr} {σ : St} {caps : List V} {res : List RVar} {v : V} {r x : Nat} {fr2 : Fr}
theorem AK_norm : AK X vd σ0 Q .norm fr σ = W X vd.b (DK X vd σ0 Q (vd.caps.map (·.ev fr))) (upd fr vd.d (.fn (.func vd.gf) [] (vd.caps.map (·.ev fr)))) σ := rfl
theorem DK_norm : DK X vd σ0 Q caps .norm fr σ = W X vd.g (GK X vd.res fr σ0 Q) (gfr caps vd.r vd.x .nilI) σ := rfl
theorem DK_ret : DK X vd σ0 Q caps .ret fr σ = W X vd.g (GK X vd.res fr σ0 Q) (gfr caps vd.r vd.x .nilI) σ := rfl
theorem DK_pan : DK X vd σ0 Q caps (.pan v) fr σ = W X vd.g (GK X vd.res fr σ0 Q) (gfr caps vd.r vd.x v) σ := rfl
theorem GK_norm : GK X res fr σ0 Q .norm fr2 σ = rvarsK X.G res fr σ (finV σ0 Q σ) := rfl
theorem GK_ret : GK X res fr σ0 Q .ret fr2 σ = rvarsK X.G res fr σ (finV σ0 Q σ) := rfl
theorem gfr_eq : gfr caps r x v = upd (upd (args0 caps) r v) x v := rfl
end

def crecover (P : Program) (g : FuncId) : Option (Nat × Nat × Nat × VCode) := do
  let gn ← P.funcs[g]?
  let gb ← gn.body
  match gb with
  | .seq (.region _ ops false) G => match ops.toList with
    | [⟨some r, .call ⟨.builtin .recover, args, _⟩, _, _, _, none⟩, ⟨some x, .assign (.tmp r'), _, _, _, none⟩] => do
      let c ← ccode P gn.ntmps G
      if args.size = 0 ∧ r' = r ∧ r < gn.ntmps ∧ x < gn.ntmps ∧ gn.results.size = 0 ∧ callable P g = true then some (gn.ntmps, r, x, c) else none
    | _ => none
  | _ => none

/-- Function f of P is read as vd. -/
def cdefer (P : Program) (f : FuncId) : Option VDefer := do
  let fn ← P.funcs[f]?
  let fb ← fn.body
  match fb with
  | .seq A (.seq (.region _ ops false) B) => match ops.toList with
    | [⟨some d, .makeFunc (.func g) first caps, _, _, _, none⟩, ⟨none, .defer ⟨.value (.tmp d'), args, _⟩, _, _, _, none⟩] => do
      let a ← ccode P fn.ntmps A
      let b ← ccode P fn.ntmps B
      let cs ← caps.toList.mapM (copd fn.ntmps)
      let rs ← fn.results.toList.mapM (crvar P fn.ntmps)
      let q ← crecover P g
      if first.size = 0 ∧ args.size = 0 ∧ d' = d ∧ d < fn.ntmps ∧ cs.length ≤ q.1 ∧ callable P f = true then some ⟨fn.ntmps, a, d, g, cs, b, rs, q.1, q.2.1, q.2.2.1, q.2.2.2⟩ else none
    | _ => none
  | _ => none

section
variable {X : Ctx} {μ : Mem} {w : World} {σ : St}

/-- The frame that a call begins with. -/
theorem args_frame {m : Nat} {args : List V} {us : List Value} (h : RVs μ w args us) (hlen : args.length ≤ m) : FrRel m μ w (args0 args) { tmps := us.toArray ++ Array.replicate (m - us.toArray.size) undef, defers := [] } := by
  have hsz : us.toArray.size = args.length := by simpa using h.1.symm
  refine ⟨by simp only [Array.size_append, Array.size_replicate, hsz]; omega, fun t ht => ?_⟩
  by_cases htl : t < args.length
  · have := h.2 t htl
    have htl' : t < us.length := by rw [← h.1]; exact htl
    simpa [args0, List.getD_eq_getElem?_getD, Array.getElem?_append, htl'] using this
  · have e1 : args0 args t = .und := by
      simp only [args0, List.getD_eq_getElem?_getD]
      rw [List.getElem?_eq_none (by omega)]; rfl
    have e2 : (us.toArray ++ Array.replicate (m - us.toArray.size) undef).getD t undef = undef := by
      have htl' : ¬ t < us.length := by rw [← h.1]; exact htl
      simp only [Array.getD_eq_getD_getElem?, Array.getElem?_append, List.size_toArray, htl', if_false, Array.getElem?_replicate]
      split <;> rfl
    rw [e1, e2]
    exact RV.mkTup (cs := []) (us := []) ⟨rfl, fun i hi => by simp at hi⟩

/-- The closure, called while function fn ends. -/
theorem crecover_sound (hmix : X.P.follows .mixedOrders = true) {g : FuncId} {gm r x : Nat} {gc : VCode} (hc : crecover X.P g = some (gm, r, x, gc)) {caps : List V} {us : List Value} (hus : RVs μ w caps us) (hcl : caps.length ≤ gm)
    (hG : μ.G = X.G) (hrel : Rel μ σ w) {K : VEx → Fr → St → Prop} {u : FrameMode} {v : V} {uv : Value} {u' : FrameMode} (hv : RV μ w v uv)
    (hu : (u = .returning ∧ uv = .nilIface ∧ u' = .returning) ∨ (u = .panicking [{ v := uv, recovered := false }] ∧ u' = .panicking [{ v := uv, recovered := true }]))
    (h : W X gc K (gfr caps r x v) σ) (hK : ∀ ve fr σ, K ve fr σ → ve = .norm ∨ ve = .ret) {R : Ending → FrameMode → World → Prop}
    (hR : ∀ ve fr σ' μ' w' u1, K ve fr σ' → Ev μ w μ' w' → Rel μ' σ' w' → R (.returned u1) u' w') : CallsD X.P g us.toArray u w R := by
  simp only [crecover, Option.bind_eq_bind, Option.bind_eq_some_iff] at hc
  obtain ⟨gn, hgn, gb, hgb, hc⟩ := hc
  split at hc
  case h_2 => cases hc
  rename_i id ops G
  split at hc
  case h_2 => cases hc
  rename_i r0 args targs ty1 p1 af1 x0 r' ty2 p2 af2 hops
  simp only [Option.bind_eq_some_iff] at hc
  obtain ⟨c, hcc, hc⟩ := hc
  split at hc
  case isFalse => cases hc
  rename_i hcond
  obtain ⟨c1, rfl, c3, c4, c5, c6⟩ := hcond
  simp only [Option.some.injEq, Prod.mk.injEq] at hc
  obtain ⟨rfl, rfl, rfl, rfl⟩ := hc
  have hfr0 := args_frame hus hcl
  refine callsD_of_wpS hgn hgb fun c₀ cs hm => ?_
  have e1 : args = #[] := by
    apply Array.ext'
    have : args.toList.length = 0 := by simpa using c1
    simpa using this
  subst e1
  have e0 : ops = #[⟨some r', .call ⟨.builtin .recover, #[], targs⟩, ty1, p1, af1, none⟩, ⟨some x0, .assign (.tmp r'), ty2, p2, af2, none⟩] := by
    apply Array.ext'; simpa using hops
  subst e0
  have hres : gn.results = #[] := by
    apply Array.ext'
    have : gn.results.toList.length = 0 := by simpa using c5
    simpa using this
  have hrr : ∀ (tmps : Array Value) (w : World), (results gn tmps).run X.P w = .ok (.tuple #[]) w := fun tmps w => by
    simp [results, hres]
  -- behind the recovery
  have behind : ∀ cs', cs' = { c₀ with mode := u' } :: cs → ∀ a : Act, a.defers = [] → FrRel gn.ntmps μ w (gfr caps r' x0 v) a → Code.wpS X.P G (bodyPostS X.P gn c₀ cs R) a cs' w := by
    intro cs' hcs' a hd hfr
    refine wpS_of_wp (wp_mono (W_sound hmix G c K (gfr caps r' x0 v) σ μ w a hcc h hG hrel hfr) ?_)
    rintro e a' w' ⟨ve, fr', σ', μ', hk, hev, hrel', hfr', hds, her⟩
    rw [hd] at hds
    have := hR ve fr' σ' μ' w' (.tuple #[]) hk hev hrel'
    rcases hK _ _ _ hk with rfl | rfl
    · cases her
      exact ⟨hds, u', hcs', _, hrr _ _, this⟩
    · cases her
      exact ⟨hds, u', hcs', _, hrr _ _, this⟩
  refine wpS_seq (wpS_region ?_)
  show wpOpsS X.P _ _ [0, 1] _ _ _
  have hrun1 : ∀ (ρ : Operand → Value) (w : World), (execOp ρ ⟨some r', .call ⟨.builtin .recover, #[], targs⟩, ty1, p1, af1, none⟩).run X.P w = .ok .recover w := fun ρ w => by
    simp [execOp, resolve, invoke, builtin]
  have hrun2 : ∀ (ρ : Operand → Value) (w : World), (execOp ρ ⟨some x0, .assign (.tmp r'), ty2, p2, af2, none⟩).run X.P w = .ok (.value (ρ (.tmp r'))) w := fun ρ w => by
    simp [execOp]
  have hfr1 := hfr0.put (some r') hv
  have hget : (({ tmps := us.toArray ++ Array.replicate (gn.ntmps - us.toArray.size) undef, defers := [] } : Act).put (some r') uv).eval (.tmp r') = uv := by
    have := hfr0.size
    simp only at this
    simp only [Act.put, Act.eval]
    simp [this, c3]
    intro hh
    simp only [Array.size_append, List.size_toArray, Array.size_replicate] at this
    rw [this] at hh
    exact absurd c3 (Nat.not_lt.2 hh)
  have hfr2 := hfr1.put (some x0) hv
  rcases hu with ⟨rfl, rfl, rfl⟩ | ⟨rfl, rfl⟩
  · have hrec : recoverD (c₀ :: cs) = none := by simp [recoverD, hm]
    simp only [wpOpsS, List.getElem?_toArray, List.getElem?_cons_zero, List.getElem?_cons_succ, Region.wanted, if_true, hrun1, hrec, hrun2, Oper.upon]
    rw [hget]
    refine behind _ ?_ _ rfl hfr2
    cases c₀; simp only at hm; subst hm; rfl
  · have hrec : recoverD (c₀ :: cs) = some (uv, { c₀ with mode := .panicking [{ v := uv, recovered := true }] } :: cs) := by simp [recoverD, hm]
    simp only [wpOpsS, List.getElem?_toArray, List.getElem?_cons_zero, List.getElem?_cons_succ, Region.wanted, if_true, hrun1, hrec, hrun2, Oper.upon]
    rw [hget]
    exact behind _ rfl _ rfl hfr2

/-- A FUNCTION THAT DEFERS A CLOSURE THAT RECOVERS. -/
theorem C_defer (hmix : X.P.follows .mixedOrders = true) {f : FuncId} {vd : VDefer} (hf : cdefer X.P f = some vd) {args : List V} {Q : Out → St → Prop} (hlen : Nat.ble args.length vd.m = true)
    (h : W X vd.a (AK X vd σ Q) (args0 args) σ) : C X f args σ Q := by
  simp only [cdefer, Option.bind_eq_bind, Option.bind_eq_some_iff] at hf
  obtain ⟨fn, hfn, fb, hfb, hf⟩ := hf
  split at hf
  case h_2 => cases hf
  rename_i A id ops B
  split at hf
  case h_2 => cases hf
  rename_i d g first caps ty1 p1 af1 d' dargs targs ty2 p2 af2 hops
  simp only [Option.bind_eq_some_iff] at hf
  obtain ⟨a, ha, b, hb, cs, hcs, rs, hrs, q, hq, hf⟩ := hf
  split at hf
  case isFalse => cases hf
  rename_i hcond
  obtain ⟨c1, c2, rfl, c4, c5, c6⟩ := hcond
  simp only [Option.some.injEq] at hf
  subst hf
  have hlen := Nat.le_of_ble_eq_true hlen
  obtain ⟨gm, r, x, gc⟩ := q
  refine ⟨c6, fun μ w us hG hrel hus => ?_⟩
  have hfr0 := args_frame (m := fn.ntmps) hus hlen
  have e1 : first = #[] := by
    apply Array.ext'
    have : first.toList.length = 0 := by simpa using c1
    simpa using this
  have e2 : dargs = #[] := by
    apply Array.ext'
    have : dargs.toList.length = 0 := by simpa using c2
    simpa using this
  subst e1 e2
  refine calls_of_wp_defers hfn hfb (wp_seq (wp_mono (W_sound hmix A a _ _ σ μ w _ ha h hG hrel hfr0) ?_))
  rintro e a1 w1 ⟨ve, fr1, σ1, μ1, hk, hev1, hrel1, hfr1, hds1, her⟩
  cases ve with
  | ret => exact hk.elim
  | pan v => exact hk.elim
  | exit i => exact hk.elim
  | norm =>
    cases her
    refine wp_seq (wp_region_list ?_)
    rw [hops]
    have hcaps := mapM_copd hfr1.ops hcs
    have hrunF : (execOp a1.eval ⟨some d', .makeFunc (.func g) #[] caps, ty1, p1, af1, none⟩).run X.P w1 = .ok (.value (.func (.func g) #[] (caps.toList.map a1.eval).toArray)) w1 := by
      have e : caps.map a1.eval = (caps.toList.map a1.eval).toArray := by cases caps; simp
      simp [execOp, Instr.makeFunc, e]
    have hfv : RV μ1 w1 (.fn (.func g) [] (cs.map (·.ev fr1))) (.func (.func g) #[] (caps.toList.map a1.eval).toArray) := .fn _ [] _ [] _ rfl (fun i hi => by simp at hi) (by simpa using hcaps.1) hcaps.2
    have hfr2 := hfr1.put (some d') hfv
    generalize hfu : Value.func (.func g) #[] (caps.toList.map a1.eval).toArray = fu at hrunF hfv hfr2
    have hget : (a1.put (some d') fu).eval (.tmp d') = fu := by
      have := hfr1.size
      simp only [Act.put, Act.eval]
      simp [this, c4]
    have hrunD : (execOp (a1.put (some d') fu).eval ⟨none, .defer ⟨.value (.tmp d'), #[], targs⟩, ty2, p2, af2, none⟩).run X.P w1 = .ok (.defer { target := .fn (.func g) (caps.toList.map a1.eval).toArray, args := #[] }) w1 := by
      simp only [execOp, resolve, hget]
      rw [← hfu]
      simp [Deferred.ofValue]
    simp only [wpList, Region.wanted, if_true]
    left
    unfold Oper.wp
    rw [hrunF, Oper.upon_value]
    left
    rw [hrunD, Oper.upon_defer]
    generalize hdd : ({ target := .fn (.func g) (caps.toList.map a1.eval).toArray, args := #[] } : Deferred) = dd
    have hcall : callable X.P g = true := by
      simp only [crecover, Option.bind_eq_bind, Option.bind_eq_some_iff] at hq
      obtain ⟨gn, hgn, gb, hgb, hq⟩ := hq
      split at hq
      · split at hq
        · simp only [Option.bind_eq_some_iff] at hq
          obtain ⟨c, hcc, hq⟩ := hq
          split at hq
          · rename_i hh; exact hh.2.2.2.2.2
          · cases hq
        · cases hq
      · cases hq
    have hds2 : (a1.put (some d') fu).defers = [] := by rw [put_defers]; exact hds1
    show Code.wp X.P B (bodyPostD X.P fn (Sims μ w Q)) { (a1.put (some d') fu) with defers := dd :: (a1.put (some d') fu).defers } w1
    rw [hds2]
    have hk : W X b (DK X ⟨fn.ntmps, a, d', g, cs, b, rs, gm, r, x, gc⟩ σ Q (cs.map (·.ev fr1))) (putO fr1 (some d') (.fn (.func g) [] (cs.map (·.ev fr1)))) σ1 := hk
    refine wp_mono (W_sound hmix B b _ (putO fr1 (some d') (.fn (.func g) [] (cs.map (·.ev fr1)))) σ1 μ1 w1 { (a1.put (some d') fu) with defers := [dd] } hb hk (hev1.G.trans hG) hrel1 ⟨hfr2.size, hfr2.rel⟩) ?_
    rintro e a' w' ⟨ve, fr', σ', μ', hk', hev', hrel', hfr', hds', her⟩
    have hev2 := hev1.trans hev'
    have htgt : dd.target = .fn (.func g) (caps.toList.map a1.eval).toArray := by rw [← hdd]
    have hinv : (invoke dd.target dd.args).run X.P w' = .ok (.enter g (caps.toList.map a1.eval).toArray) w' := by
      rw [← hdd]
      simp only [invoke]
      have := callFunc_run hcall (#[] ++ (caps.toList.map a1.eval).toArray) w'
      simpa using this
    have hus' : RVs μ' w' (cs.map (·.ev fr1)) (caps.toList.map a1.eval) := RVs.mono hev' ⟨by simpa using hcaps.1, hcaps.2⟩
    -- the closure, in either mode
    have close : ∀ (u u' : FrameMode) (v : V) (uv : Value), u ≠ .run → settle u' = .returning → RV μ' w' v uv →
        ((u = .returning ∧ uv = .nilIface ∧ u' = .returning) ∨ (u = .panicking [{ v := uv, recovered := false }] ∧ u' = .panicking [{ v := uv, recovered := true }])) →
        W X gc (GK X rs fr' σ Q) (gfr (cs.map (·.ev fr1)) r x v) σ' → Leaves X.P fn a'.tmps (Sims μ w Q) a'.defers u w' := by
      intro u u' v uv hu1 hset hv hu hW
      rw [hds']
      refine ⟨hu1, .func g, _, g, _, htgt, hinv, ?_⟩
      refine crecover_sound hmix hq hus' (by simpa using c5) (hev2.G.trans hG) hrel' hv hu hW (fun ve fr σ h => ?_) ?_
      · cases ve with
        | norm => exact .inl rfl
        | ret => exact .inr rfl
        | pan v => exact (h : False).elim
        | exit i => exact (h : False).elim
      · intro ve fr2 σ2 μ2 w2 u1 hK hev3 hrel3
        have hK' : rvarsK X.G rs fr' σ2 (finV σ Q σ2) := by
          cases ve with
          | norm => exact hK
          | ret => exact hK
          | pan v => exact (hK : False).elim
          | exit i => exact (hK : False).elim
        obtain ⟨vs, uu, h1, h2, h3⟩ := results_sound hrs ((hev2.trans hev3).G.trans hG) hrel3 (hfr'.mono hev3) hK'
        show Leaves X.P fn a'.tmps (Sims μ w Q) [] (settle u') w2
        rw [hset]
        exact ⟨uu, h3, exit_sound h1 hrel (hev2.trans hev3) hrel3 ⟨uu, h2, rfl⟩⟩
    cases ve with
    | norm => cases her; exact close .returning .returning .nilI .nilIface (by simp) rfl .nilI (.inl ⟨rfl, rfl, rfl⟩) hk'
    | ret => cases her; exact close .returning .returning .nilI .nilIface (by simp) rfl .nilI (.inl ⟨rfl, rfl, rfl⟩) hk'
    | exit i => exact hk'.elim
    | pan v =>
      obtain ⟨u, hu, rfl⟩ := her
      exact close (.panicking [{ v := u, recovered := false }]) (.panicking [{ v := u, recovered := true }]) v u (by simp) (by simp [settle]) hu (.inr ⟨rfl, rfl⟩) hk'
end
end Go.Vs
