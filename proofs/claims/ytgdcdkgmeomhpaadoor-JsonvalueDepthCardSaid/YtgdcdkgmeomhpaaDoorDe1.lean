/- Parts of the proof, joined: The value semantics, part A: abstract values, how they lie in memory, and how memory may evolve while they keep. The value semantics, part B: operations on abstract values, and how an operation of the program is read as one of them. The value semantics, part C: the operations that leave memory alone are sound. The value semantics, part D: more operations that leave memory alone. The value semantics, part E: cuts, fields, places, loads. The value semantics, part F: places in memory, loads, cuts of slices, structs built. The value semantics, part G: memory that is made. The value semantics, part H: structs built, literals of slices, new variables, stores, maps. The value semantics, part I: new variables, stores, literals of slices, conversions of bytes. The value semantics, part J: append. The value semantics, part K: append's sources, stores, cuts of slices, bytes, maps. The value semantics, part L: bytes of a string, maps. The value semantics, part M: stores into maps; every operation that is read is sound. The value semantics, part U: what strings.Builder is made of: addresses seen as unsafe.Pointer, their comparison, a row's bytes as a string. The value semantics, part N: every operation that is read is sound. -/
import Derived.Deep.MidRow
import Derived.Deep.AppendSrc
import Derived.Orders
import Derived.Calls
import Derived.Lib.Bytealg
import Derived.Laws.Strings
import Derived.Laws.Sem
import Derived.Laws.World
import GoSem.Builtin.Max
import Derived.Laws.IdiomCopy
import Derived.Laws.NewFold
import Derived.Laws.NewBlocks
import Derived.Laws.AppendOwn
import Derived.Deep.Upon
import Derived.Laws.IdiomStrings
import Derived.Laws.BytesString
import Derived.Lib.UnsafeStr
import Derived.Laws.Externs
set_option linter.unusedVariables false
set_option linter.unusedSimpArgs false

namespace Go.Vs

/-- What a slice value may do with the room behind it: nothing is known; there is none; it is the owner's, row number i. -/
inductive Tk where
  | no
  | full
  | own (i : Nat)

/-- Abstract values: slices and strings are lists. -/
inductive V where
  | bool (b : Bool)
  | int (k : IntKind) (n : Int)
  | str (s : List UInt8)
  | agg (cs : List V)
  | tup (vs : List V)
  | slc (nn : Bool) (xs : List V) (tk : Tk)
  | ref (a : Option (Nat × Nat))
  | gref (g off : Nat)
  | eptr (cs : List V)
  | sptr (cs : List V) (e : TypeId)
  | iface (t : TypeId) (v : V)
  | nilI
  | fn (f : Fn) (first cap : List V)
  | nilF
  | mp (r : Option Nat)

def V.und : V := .tup []

def V.cells : V → List V
  | .agg cs => cs
  | v => [v]

def V.one : V → Bool
  | .agg _ | .tup _ => false
  | _ => true

def V.notTup : V → Bool
  | .tup _ => false
  | _ => true

/-- The abstract store: objects (cells), maps (entries), how far each owned row has been filled; the types of the objects and of the rows. -/
structure St where
  objs : List (List V)
  maps : List (List (V × V))
  toks : List Nat
  tys : List TypeId
  tts : List TypeId

/-- Where the abstract store lies. -/
structure Mem where
  base : Nat
  G : List (Nat × List V)
  n : Nat
  ob : Nat → Nat
  nm : Nat
  mb : Nat → Nat
  pr : Nat → Nat
  tk : Nat → Nat × Nat × Nat
  tl : List Nat
  tt : Nat → TypeId

/-- Block b bears cells of type e; of them those up to k at most are frozen. -/
def tagAt (w : World) (b : Nat) (e : TypeId) : Prop := ∃ c f, w.heap[b]? = some (.cells c e f)
def rowTag (w : World) (b : Nat) (e : TypeId) (k : Nat) : Prop := ∃ (c : Array Value) (f : Nat × Nat), w.heap[b]? = some (.cells c e f) ∧ f.2 ≤ k

/-- What a slice's mark says of memory. -/
def TkOk (μ : Mem) (w : World) (len b off cap sz : Nat) : Tk → Prop
  | .no => True
  | .full => len = cap
  | .own i => i < μ.tl.length ∧ len ≤ μ.tl.getD i 0 ∧
      (μ.tl.getD i 0 = len → μ.tk i = (b, off, sz) ∧ μ.pr b = off + len * sz ∧
        (∀ j, len * sz ≤ j → j < cap * sz → (w.cell? ⟨b, off + j, none⟩).isSome = true) ∧ rowTag w b (μ.tt i) (off + len * sz))

/-- The value v stands for the machine's value u. -/
inductive RV (μ : Mem) (w : World) : V → Value → Prop
  | bool (b : Bool) : RV μ w (.bool b) (.bool b)
  | int (k : IntKind) (n : Int) : RV μ w (.int k n) (.int k n)
  | str (s : ByteArray) : RV μ w (.str s.data.toList) (.string s)
  | agg (cs : List V) (us : List Value) : cs.length = us.length → (∀ u ∈ us, u.oneCell' = true) →
      (∀ i, i < cs.length → RV μ w (cs.getD i .und) (us.getD i undef)) → RV μ w (.agg cs) (.agg us.toArray)
  | tup (cs : List V) (us : List Value) : cs.length = us.length →
      (∀ i, i < cs.length → RV μ w (cs.getD i .und) (us.getD i undef)) → RV μ w (.tup cs) (.tuple us.toArray)
  | nils : RV μ w (.slc false [] .no) (.slice none 0 0)
  | slc0 (a : Addr) (cap : Nat) : RV μ w (.slc true [] .no) (.slice (some a) 0 cap)
  | slc (xs : List V) (tk : Tk) (b off cap sz : Nat) (us : List Value) :
      (∀ x ∈ xs, x.cells.length = sz) → us.length = xs.length * sz → w.rangeAt b off us → off + us.length ≤ μ.pr b →
      (∀ u ∈ us, u.oneCell' = true) →
      (∀ i, i < xs.length → ∀ j, j < sz → RV μ w ((xs.getD i .und).cells.getD j .und) (us.getD (i * sz + j) undef)) →
      TkOk μ w xs.length b off cap sz tk → xs.length ≤ cap →
      RV μ w (.slc true xs tk) (.slice (some ⟨b, off, none⟩) xs.length cap)
  | ref (o off : Nat) : o < μ.n → RV μ w (.ref (some (o, off))) (.pointer (some ⟨μ.ob o, off, none⟩))
  | nilp : RV μ w (.ref none) (.pointer none)
  | gref (g off : Nat) : RV μ w (.gref g off) (.pointer (some ⟨g, off, none⟩))
  | eptr (cs : List V) (us : List Value) (b off : Nat) : cs.length = us.length → w.rangeAt b off us → off + us.length ≤ μ.pr b →
      (∀ u ∈ us, u.oneCell' = true) →
      (∀ i, i < cs.length → RV μ w (cs.getD i .und) (us.getD i undef)) → RV μ w (.eptr cs) (.pointer (some ⟨b, off, none⟩))
  | sptr (cs : List V) (e : TypeId) (us : List Value) (b off : Nat) : cs.length = us.length → w.rangeAt b off us → off + us.length ≤ μ.pr b → μ.base ≤ b → tagAt w b e →
      (∀ i, i < cs.length → RV μ w (cs.getD i .und) (us.getD i undef)) → RV μ w (.sptr cs e) (.pointer (some ⟨b, off, none⟩))
  | iface (t : TypeId) (v : V) (u : Value) : RV μ w v u → RV μ w (.iface t v) (.iface t u)
  | nilI : RV μ w .nilI .nilIface
  | fn (f : Fn) (fs cs : List V) (us vs : List Value) : fs.length = us.length → (∀ i, i < fs.length → RV μ w (fs.getD i .und) (us.getD i undef)) →
      cs.length = vs.length → (∀ i, i < cs.length → RV μ w (cs.getD i .und) (vs.getD i undef)) →
      RV μ w (.fn f fs cs) (.func f us.toArray vs.toArray)
  | nilF : RV μ w .nilF .nilFunc
  | mp (r : Nat) : r < μ.nm → RV μ w (.mp (some r)) (.map (some (μ.mb r)))
  | nilM : RV μ w (.mp none) (.map none)

/-- Lists of values, place by place. -/
def RVs (μ : Mem) (w : World) (cs : List V) (us : List Value) : Prop :=
  cs.length = us.length ∧ ∀ i, i < cs.length → RV μ w (cs.getD i .und) (us.getD i undef)

/-- The abstract store lies in the world as the map says. -/
structure Rel (μ : Mem) (σ : St) (w : World) : Prop where
  n : μ.n = σ.objs.length
  nm : μ.nm = σ.maps.length
  tl : μ.tl = σ.toks
  base : μ.base ≤ w.heap.size
  past : ∀ b, w.heap.size ≤ b → μ.pr b = 0
  glob : ∀ (g : Nat) (cs : List V), (g, cs) ∈ μ.G → g < μ.base ∧ ∃ us, RVs μ w cs us ∧ w.rangeAt g 0 us ∧ us.length ≤ μ.pr g ∧ ∀ u ∈ us, u.oneCell' = true
  obj : ∀ (o : Nat) (cs : List V), σ.objs[o]? = some cs → μ.base ≤ μ.ob o ∧ μ.ob o < w.heap.size ∧ μ.pr (μ.ob o) = 0 ∧
    ∃ us, RVs μ w cs us ∧ w.rangeAt (μ.ob o) 0 us ∧ (∀ j, w.frozen? ⟨μ.ob o, j, none⟩ = false) ∧ ∀ u ∈ us, u.oneCell' = true
  inj : ∀ o o', o < μ.n → o' < μ.n → μ.ob o = μ.ob o' → o = o'
  map : ∀ (r : Nat) (es : List (V × V)), σ.maps[r]? = some es → μ.base ≤ μ.mb r ∧ ∃ (cl : Nat) (us : Array MapEntry), w.heap[μ.mb r]? = some (.map us cl) ∧ us.size = es.length ∧
    ∀ (j : Nat) (k v : V) (e : MapEntry), es[j]? = some (k, v) → us[j]? = some e → RV μ w k e.key ∧ RV μ w v e.val
  minj : ∀ r r', r < μ.nm → r' < μ.nm → μ.mb r = μ.mb r' → r = r'
  tok : ∀ t, t < μ.tl.length → μ.base ≤ (μ.tk t).1 ∧ (μ.tk t).1 < w.heap.size ∧ μ.pr (μ.tk t).1 = (μ.tk t).2.1 + μ.tl.getD t 0 * (μ.tk t).2.2 ∧
    (∀ o, o < μ.n → μ.ob o ≠ (μ.tk t).1)
  tinj : ∀ t t', t < μ.tl.length → t' < μ.tl.length → (μ.tk t).1 = (μ.tk t').1 → t = t'
  mo : ∀ r o, r < μ.nm → o < μ.n → μ.mb r ≠ μ.ob o
  mt : ∀ r t, r < μ.nm → t < μ.tl.length → μ.mb r ≠ (μ.tk t).1
  tys : σ.tys.length = σ.objs.length
  ty : ∀ (o : Nat) (e : TypeId), σ.tys[o]? = some e → tagAt w (μ.ob o) e
  tts : σ.tts.length = σ.toks.length
  tt : ∀ (i : Nat) (e : TypeId), σ.tts[i]? = some e → μ.tt i = e

/-- What may have happened to memory in between. -/
structure Ev (μ : Mem) (w : World) (μ' : Mem) (w' : World) : Prop where
  base : μ'.base = μ.base
  G : μ'.G = μ.G
  size : w.heap.size ≤ w'.heap.size
  old : ∀ b, b < μ.base → w'.heap[b]? = w.heap[b]?
  cell : ∀ b j, j < μ.pr b → w'.cell? ⟨b, j, none⟩ = w.cell? ⟨b, j, none⟩
  pr : ∀ b, μ.pr b ≤ μ'.pr b
  there : ∀ b j, (w.cell? ⟨b, j, none⟩).isSome = true → (w'.cell? ⟨b, j, none⟩).isSome = true
  n : μ.n ≤ μ'.n
  ob : ∀ o, o < μ.n → μ'.ob o = μ.ob o
  nm : μ.nm ≤ μ'.nm
  mb : ∀ o, o < μ.nm → μ'.mb o = μ.mb o
  tl : μ.tl.length ≤ μ'.tl.length
  tk : ∀ t, t < μ.tl.length → μ.tl.getD t 0 ≤ μ'.tl.getD t 0 ∧ (μ'.tl.getD t 0 = μ.tl.getD t 0 → μ'.tk t = μ.tk t ∧ μ'.pr (μ.tk t).1 = μ.pr (μ.tk t).1)
  os : w'.os = w.os
  tape : w'.tape = w.tape
  output : w'.output = w.output
  shape : ∀ (b : Nat) (c : Array Value) (e : TypeId) (f : Nat × Nat), w.heap[b]? = some (.cells c e f) → ∃ c' f', w'.heap[b]? = some (.cells c' e f') ∧ ∀ k, μ'.pr b ≤ k → f.2 ≤ k → f'.2 ≤ k
  tt : ∀ t, t < μ.tl.length → μ'.tt t = μ.tt t

theorem Ev.refl (μ : Mem) (w : World) : Ev μ w μ w :=
  ⟨rfl, rfl, Nat.le_refl _, fun _ _ => rfl, fun _ _ _ => rfl, fun _ => Nat.le_refl _, fun _ _ h => h, Nat.le_refl _, fun _ _ => rfl,
    Nat.le_refl _, fun _ _ => rfl, Nat.le_refl _, fun _ _ => ⟨Nat.le_refl _, fun _ => ⟨rfl, rfl⟩⟩, rfl, rfl, rfl, fun _ c _ f h => ⟨c, f, h, fun _ _ h => h⟩, fun _ _ => rfl⟩

theorem Ev.trans {μ μ₁ μ₂ : Mem} {w w₁ w₂ : World} (h : Ev μ w μ₁ w₁) (k : Ev μ₁ w₁ μ₂ w₂) : Ev μ w μ₂ w₂ where
  base := k.base.trans h.base
  G := k.G.trans h.G
  size := Nat.le_trans h.size k.size
  old b hb := (k.old b (by rw [h.base]; exact hb)).trans (h.old b hb)
  cell b j hj := (k.cell b j (Nat.lt_of_lt_of_le hj (h.pr b))).trans (h.cell b j hj)
  pr b := Nat.le_trans (h.pr b) (k.pr b)
  there b j hj := k.there b j (h.there b j hj)
  n := Nat.le_trans h.n k.n
  ob o ho := (k.ob o (Nat.lt_of_lt_of_le ho h.n)).trans (h.ob o ho)
  nm := Nat.le_trans h.nm k.nm
  mb o ho := (k.mb o (Nat.lt_of_lt_of_le ho h.nm)).trans (h.mb o ho)
  tl := Nat.le_trans h.tl k.tl
  tk t ht := by
    obtain ⟨h1, h2⟩ := h.tk t ht
    obtain ⟨k1, k2⟩ := k.tk t (Nat.lt_of_lt_of_le ht h.tl)
    refine ⟨Nat.le_trans h1 k1, fun he => ?_⟩
    obtain ⟨h3, h4⟩ := h2 (by omega)
    obtain ⟨k3, k4⟩ := k2 (by omega)
    rw [h3] at k3 k4
    exact ⟨k3, k4.trans h4⟩
  os := k.os.trans h.os
  tape := k.tape.trans h.tape
  output := k.output.trans h.output
  shape b c e f hc := by
    obtain ⟨c1, f1, h1, h2⟩ := h.shape b c e f hc
    obtain ⟨c2, f2, k1, k2⟩ := k.shape b c1 e f1 h1
    exact ⟨c2, f2, k1, fun n hn hf => k2 n hn (h2 n (Nat.le_trans (k.pr b) hn) hf)⟩
  tt t ht := (k.tt t (Nat.lt_of_lt_of_le ht h.tl)).trans (h.tt t ht)

theorem tagAt.mono {μ μ' : Mem} {w w' : World} (h : Ev μ w μ' w') {b : Nat} {e : TypeId} (ht : tagAt w b e) : tagAt w' b e := by
  obtain ⟨c, f, hc⟩ := ht
  obtain ⟨c', f', h1, _⟩ := h.shape b c e f hc
  exact ⟨c', f', h1⟩

theorem Ev.range {μ μ' : Mem} {w w' : World} (h : Ev μ w μ' w') {b off : Nat} {us : List Value} (hr : w.rangeAt b off us) (hp : off + us.length ≤ μ.pr b) :
    w'.rangeAt b off us := fun j v hv => by
  have hj : j < us.length := (List.getElem?_eq_some_iff.1 hv).1
  rw [h.cell b (off + j) (by omega)]
  exact hr j v hv

theorem TkOk.mono {μ μ' : Mem} {w w' : World} (h : Ev μ w μ' w') {len b off cap sz : Nat} {tk : Tk}
    (ht : TkOk μ w len b off cap sz tk) : TkOk μ' w' len b off cap sz tk := by
  cases tk with
  | no => trivial
  | full => exact ht
  | own i =>
    obtain ⟨h1, h2, h3⟩ := ht
    obtain ⟨k1, k2⟩ := h.tk i h1
    refine ⟨Nat.lt_of_lt_of_le h1 h.tl, Nat.le_trans h2 k1, fun he => ?_⟩
    have e0 : μ.tl.getD i 0 = len := by omega
    obtain ⟨h4, h4', h5, c, f, h6, h7⟩ := h3 e0
    obtain ⟨k3, k4⟩ := k2 (by omega)
    rw [h4] at k4
    have k4' : μ'.pr b = μ.pr b := k4
    obtain ⟨c', f', k5, k6⟩ := h.shape b c _ f h6
    exact ⟨by rw [k3]; exact h4, by rw [k4', h4'], fun j hj hj' => h.there _ _ (h5 j hj hj'), c', f', by rw [h.tt i h1]; exact k5, k6 _ (by rw [k4', h4']; exact Nat.le_refl _) h7⟩

/-- What a value stands for keeps. -/
theorem RV.mono {μ μ' : Mem} {w w' : World} (h : Ev μ w μ' w') {v : V} {u : Value} (hv : RV μ w v u) : RV μ' w' v u := by
  induction hv with
  | bool b => exact .bool b
  | int k n => exact .int k n
  | str s => exact .str s
  | agg cs us h1 h2 _ ih => exact .agg cs us h1 h2 ih
  | tup cs us h1 _ ih => exact .tup cs us h1 ih
  | nils => exact .nils
  | slc0 a cap => exact .slc0 a cap
  | slc xs tk b off cap sz us h1 h2 h3 h4 h5 _ h7 h8 ih =>
    exact .slc xs tk b off cap sz us h1 h2 (h.range h3 h4) (Nat.le_trans h4 (h.pr b)) h5 ih (h7.mono h) h8
  | ref o off ho =>
    rw [← h.ob o ho]
    exact .ref o off (Nat.lt_of_lt_of_le ho h.n)
  | nilp => exact .nilp
  | gref g off => exact .gref g off
  | eptr cs us b off h1 h2 h3 h4 _ ih => exact .eptr cs us b off h1 (h.range h2 h3) (Nat.le_trans h3 (h.pr b)) h4 ih
  | sptr cs e us b off h1 h2 h3 h0 h4 _ ih => exact .sptr cs e us b off h1 (h.range h2 h3) (Nat.le_trans h3 (h.pr b)) (by rw [h.base]; exact h0) (h4.mono h) ih
  | iface t v u _ ih => exact .iface t v u ih
  | nilI => exact .nilI
  | fn f fs cs us vs h1 _ h3 _ ih1 ih2 => exact .fn f fs cs us vs h1 ih1 h3 ih2
  | nilF => exact .nilF
  | mp r hr =>
    rw [← h.mb r hr]
    exact .mp r (Nat.lt_of_lt_of_le hr h.nm)
  | nilM => exact .nilM

theorem RVs.mono {μ μ' : Mem} {w w' : World} (h : Ev μ w μ' w') {cs : List V} {us : List Value} (hv : RVs μ w cs us) : RVs μ' w' cs us :=
  ⟨hv.1, fun i hi => (hv.2 i hi).mono h⟩

/-- One cell or not: the two agree. -/
theorem RV.one {μ : Mem} {w : World} {v : V} {u : Value} (hv : RV μ w v u) : u.oneCell' = v.one := by
  cases hv <;> rfl

/-- The cells agree, and each is one cell where the value is no tuple. -/
theorem RV.cells {μ : Mem} {w : World} {v : V} {u : Value} (hv : RV μ w v u) : RVs μ w v.cells u.cells.toList := by
  cases hv with
  | agg cs us h1 h2 h3 => exact ⟨by simpa [V.cells, Value.cells] using h1, by simpa [V.cells, Value.cells] using h3⟩
  | _ =>
    refine ⟨rfl, fun i hi => ?_⟩
    simp only [V.cells, List.length_cons, List.length_nil] at hi
    obtain rfl : i = 0 := by omega
    simp only [V.cells, Value.cells, List.getD_cons_zero]
    first
      | exact .bool _ | exact .int _ _ | exact .str _ | exact .nils | exact .slc0 _ _ | exact .nilp | exact .gref _ _ | exact .nilI | exact .nilF | exact .nilM
      | (constructor <;> assumption)

theorem RV.cellsOne {μ : Mem} {w : World} {v : V} {u : Value} (hv : RV μ w v u) (ht : v.notTup = true) : ∀ x ∈ u.cells.toList, x.oneCell' = true := by
  cases hv with
  | agg cs us h1 h2 h3 => simpa [Value.cells] using h2
  | tup cs us => cases ht
  | _ => intro x hx; simp only [Value.cells, List.mem_cons, List.not_mem_nil, or_false] at hx; subst hx; rfl

end Go.Vs

namespace Go.Vs

abbrev Fr := Nat → V

def upd (fr : Fr) (d : Nat) (v : V) : Fr := fun t => if t = d then v else fr t
def putO (fr : Fr) : Option Nat → V → Fr
  | some d, v => upd fr d v
  | none, _ => fr

inductive Opd where
  | t (n : Nat)
  | c (v : V)

def Opd.ev (fr : Fr) : Opd → V
  | .t n => fr n
  | .c v => v

/-- Kinds that are held against nil. -/
inductive NK where
  | p | s | i | f | m

/-- Kinds of keys. -/
inductive KQ where
  | i | s | b

inductive VOp where
  | mov (x : Opd)
  | pick (c a b : Opd)
  | alloc (e : TypeId) (z : List V)
  | box (e : TypeId) (x : Opd)
  | build (z : List V) (ps : List ((Nat × Nat) × Opd))
  | bslc (sz : Nat) (ps : List Opd)
  | loadL (x : Opd)
  | loadA (n : Nat) (x : Opd)
  | store (n : Nat) (x v : Opd)
  | nilck (x : Opd)
  | bin (op : BinOp) (x y : Opd)
  | eqB (neg : Bool) (x y : Opd)
  | eqN (q : NK) (neg : Bool) (x y : Opd)
  | un (op : UnOp) (x : Opd)
  | cvI (k : IntKind) (x : Opd)
  | cvS (x : Opd)
  | cvBS (x : Opd)
  | cvSB (x : Opd)
  | cvIS (x : Opd)
  | mkI (t : TypeId) (x : Opd)
  | mkF (f : Fn) (fs cs : List Opd)
  | slS (x : Opd) (lo hi : Option Opd)
  | slV (sz : Nat) (x : Opd) (lo hi : Option Opd)
  | fadr (off : Nat) (x : Opd)
  | fldL (off : Nat) (x : Opd)
  | fldA (off n : Nat) (x : Opd)
  | iadV (sz : Nat) (x i : Opd)
  | iadA (len sz : Nat) (x i : Opd)
  | idxS (x i : Opd)
  | idxL (len : Nat) (x i : Opd)
  | idxA (len sz : Nat) (x i : Opd)
  | tas (t : TypeId) (x : Opd)
  | tasOk (t : TypeId) (z : V) (x : Opd)
  | ext (x : Opd) (i : Nat)
  | lenS (x : Opd)
  | lenV (x : Opd)
  | lenA (n : Nat)
  | app (e : TypeId) (sz : Nat) (z : List V) (x y : Opd)
  | appS (e : TypeId) (x y : Opd)
  | mx (xs : List Opd)
  | mn (xs : List Opd)
  | mkM
  | lenM (x : Opd)
  | look (q : KQ) (z : V) (ok : Bool) (x i : Opd)
  | mset (q : KQ) (x i v : Opd)
  | cvUP (x : Opd)
  | cvPU (u : TypeId) (n : Nat) (x : Opd)
  | eqP (neg : Bool) (x y : Opd)
  | usd (x : Opd)
  | ustr (u : TypeId) (x n : Opd)
  | ixB (x c : Opd)

/-- The largest length that is let in. -/
def big : Nat := 4294967296

def spl (cs : List V) (off : Nat) (vs : List V) : List V := cs.take off ++ vs ++ cs.drop (off + vs.length)

def fillV : List V → List (Nat × Nat × V) → Option (List V)
  | cs, [] => some cs
  | cs, (off, sz, v) :: r => if v.cells.length = sz ∧ v.notTup = true ∧ off + sz ≤ cs.length then fillV (spl cs off v.cells) r else none

def ibits (op : BinOp) (k : IntKind) (x y : Int) : Int :=
  match op with
  | .and => k.wrap (BitVec.ofInt k.bits x &&& BitVec.ofInt k.bits y).toNat
  | .or => k.wrap (BitVec.ofInt k.bits x ||| BitVec.ofInt k.bits y).toNat
  | .xor => k.wrap (BitVec.ofInt k.bits x ^^^ BitVec.ofInt k.bits y).toNat
  | .andNot => k.wrap (BitVec.ofInt k.bits x &&& ~~~ BitVec.ofInt k.bits y).toNat
  | _ => 0

def vbinI (op : BinOp) (k : IntKind) (a b : Int) (σ : St) (K : V → St → Prop) : Prop :=
  match op with
  | .add => K (.int k (k.wrap (a + b))) σ
  | .sub => K (.int k (k.wrap (a - b))) σ
  | .mul => K (.int k (k.wrap (a * b))) σ
  | .quo => b ≠ 0 ∧ K (.int k (k.wrap (a.tdiv b))) σ
  | .rem => b ≠ 0 ∧ K (.int k (a.tmod b)) σ
  | .and => K (.int k (ibits .and k a b)) σ
  | .or => K (.int k (ibits .or k a b)) σ
  | .xor => K (.int k (ibits .xor k a b)) σ
  | .andNot => K (.int k (ibits .andNot k a b)) σ
  | .eql => K (.bool (a == b)) σ
  | .neq => K (.bool (a != b)) σ
  | .lss => K (.bool (decide (a < b))) σ
  | .leq => K (.bool (decide (a ≤ b))) σ
  | .gtr => K (.bool (decide (a > b))) σ
  | .geq => K (.bool (decide (a ≥ b))) σ
  | .shl | .shr => False

def vbin (op : BinOp) (x y : V) (σ : St) (K : V → St → Prop) : Prop :=
  match x, y with
  | .int k a, .int k' b =>
    match op with
    | .shl => 0 ≤ b ∧ K (.int k (k.wrap (a * 2 ^ (min b.toNat k.bits)))) σ
    | .shr => 0 ≤ b ∧ K (.int k (a.fdiv (2 ^ (min b.toNat k.bits)))) σ
    | _ => k = k' ∧ vbinI op k a b σ K
  | .str a, .str b =>
    match op with
    | .add => a.length + b.length ≤ big ∧ K (.str (a ++ b)) σ
    | .eql => K (.bool (a == b)) σ
    | .neq => K (.bool !(a == b)) σ
    | .lss => K (.bool (Op.bytesLess a b)) σ
    | .leq => K (.bool (Op.bytesLess a b || a == b)) σ
    | .gtr => K (.bool !(Op.bytesLess a b || a == b)) σ
    | .geq => K (.bool !(Op.bytesLess a b)) σ
    | _ => False
  | _, _ => False

/-- Is it nil? Of a kind that may be held against nil. -/
def V.isNil : NK → V → Option Bool
  | .p, .ref a => some a.isNone
  | .p, .gref _ _ => some false
  | .p, .eptr _ => some false
  | .p, .sptr _ _ => some false
  | .s, .slc nn _ _ => some !nn
  | .i, .nilI => some true
  | .i, .iface _ _ => some false
  | .f, .nilF => some true
  | .f, .fn _ _ _ => some false
  | .m, .mp r => some r.isNone
  | _, _ => none

def vun (op : UnOp) (x : V) (σ : St) (K : V → St → Prop) : Prop :=
  match op, x with
  | .neg, .int k n => K (.int k (k.wrap (0 - n))) σ
  | .xor, .int k n => K (.int k (ibits .xor k (if k.signed then -1 else k.max) n)) σ
  | .not, .bool b => K (.bool !b) σ
  | _, _ => False

/-- The bounds of a cut. -/
def vcut (len : Nat) (lo hi : Option V) (K : Nat → Nat → Prop) : Prop :=
  match lo, hi with
  | none, none => K 0 len
  | some (.int _ l), none => (0 ≤ l ∧ l ≤ len) ∧ K l.toNat len
  | none, some (.int _ h) => (0 ≤ h ∧ h ≤ len) ∧ K 0 h.toNat
  | some (.int _ l), some (.int _ h) => (0 ≤ h ∧ h ≤ len) ∧ (0 ≤ l ∧ l ≤ h) ∧ K l.toNat h.toNat
  | _, _ => False

def cut {α : Type} (xs : List α) (l h : Nat) : List α := (xs.take h).drop l

def cutSK (K : V → St → Prop) (σ : St) (s : List UInt8) (l h : Nat) : Prop := K (.str (cut s l h)) σ
def cutVK (K : V → St → Prop) (σ : St) (xs : List V) (l h : Nat) : Prop := K (.slc true (cut xs l h) .no) σ
def cutNK (K : V → St → Prop) (σ : St) (_l _h : Nat) : Prop := K (.slc false [] .no) σ

def gfind (G : List (Nat × List V)) (g : Nat) : Option (List V) := (G.find? fun x => x.1 == g).map (·.2)

/-- The cells behind an address, and the place in them. -/
def vcells (G : List (Nat × List V)) (σ : St) : V → Option (List V)
  | .ref (some (o, off)) => (σ.objs[o]?).map (·.drop off)
  | .gref g off => (gfind G g).map (·.drop off)
  | .eptr cs => some cs
  | _ => none

def V.isK : KQ → V → Bool
  | .i, .int _ _ => true
  | .s, .str _ => true
  | .b, .bool _ => true
  | _, _ => false

/-- Two keys of one simple kind: are they the same? -/
def V.same : V → V → Bool
  | .int _ a, .int _ b => a == b
  | .str a, .str b => a == b
  | .bool a, .bool b => a == b
  | _, _ => false

def V.kin : V → V → Bool
  | .int k _, .int k' _ => k == k'
  | .str _, .str _ => true
  | .bool _, .bool _ => true
  | _, _ => false

def mfind (k : V) : List (V × V) → Option V
  | [] => none
  | (k', v) :: r => if V.same k k' then some v else mfind k r

def mput (k v : V) : List (V × V) → List (V × V)
  | [] => [(k, v)]
  | (k', v') :: r => if V.same k k' then (k, v) :: r else (k', v') :: mput k v r

/-- Byte cells. -/
def bytesV (s : List UInt8) : List V := s.map fun b => .int .u8 (b.toNat : Int)
/-- A list of bytes back. -/
def vbytes : List V → Option (List UInt8)
  | [] => some []
  | .int .u8 n :: r => if 0 ≤ n ∧ n < 256 then (vbytes r).map (n.toNat.toUInt8 :: ·) else none
  | _ :: _ => none

def vmax2 : V → V → Option V
  | .int k a, .int k' b => if k = k' then some (.int k (if a < b then b else a)) else none
  | _, _ => none
def vmin2 : V → V → Option V
  | .int k a, .int k' b => if k = k' then some (.int k (if b < a then b else a)) else none
  | _, _ => none

def vapp (e : TypeId) (sz : Nat) (σ : St) (x : V) (ys : List V) (K : V → St → Prop) : Prop :=
  (∀ y ∈ ys, y.cells.length = sz ∧ y.notTup = true) ∧
  match x with
  | .slc false _ _ => ys.length ≤ big ∧ if ys = [] then K x σ else K (.slc true ys (.own σ.toks.length)) { σ with toks := σ.toks ++ [ys.length], tts := σ.tts ++ [e] }
  | .slc true xs .full => (∀ y ∈ xs, y.cells.length = sz) ∧ xs.length + ys.length ≤ big ∧ if ys = [] then K x σ else K (.slc true (xs ++ ys) (.own σ.toks.length)) { σ with toks := σ.toks ++ [xs.length + ys.length], tts := σ.tts ++ [e] }
  | .slc true xs (.own i) => (∀ y ∈ xs, y.cells.length = sz) ∧ xs ≠ [] ∧ xs.length + ys.length ≤ big ∧ σ.toks[i]? = some xs.length ∧ σ.tts[i]? = some e ∧ K (.slc true (xs ++ ys) (.own i)) { σ with toks := σ.toks.set i (xs.length + ys.length) }
  | _ => False

/-- Where a byte stands first, or -1. -/
def ixByte (s : List UInt8) (c : Int) : Int := Lib.indexByte s c.toNat.toUInt8

/-- THE OPERATIONS: what they hand on, and in which store. -/
def vop (G : List (Nat × List V)) (o : VOp) (fr : Fr) (σ : St) (K : V → St → Prop) : Prop :=
  match o with
  | .mov x => K (x.ev fr) σ
  | .pick c a b => match c.ev fr with
    | .bool t => K (bif t then a.ev fr else b.ev fr) σ
    | _ => False
  | .alloc e z => K (.ref (some (σ.objs.length, 0))) { σ with objs := σ.objs ++ [z], tys := σ.tys ++ [e] }
  | .box e x => (x.ev fr).notTup = true ∧ K (.ref (some (σ.objs.length, 0))) { σ with objs := σ.objs ++ [(x.ev fr).cells], tys := σ.tys ++ [e] }
  | .build z ps => match fillV z (ps.map fun p => (p.1.1, p.1.2, p.2.ev fr)) with
    | some cs => K (.agg cs) σ
    | none => False
  | .bslc sz ps => (∀ x ∈ ps.map (·.ev fr), x.cells.length = sz ∧ x.notTup = true) ∧ K (.slc true (ps.map (·.ev fr)) .full) σ
  | .loadL x => match vcells G σ (x.ev fr) with
    | some (v :: _) => K v σ
    | _ => False
  | .loadA n x => match vcells G σ (x.ev fr) with
    | some cs => n ≤ cs.length ∧ K (.agg (cs.take n)) σ
    | none => False
  | .store n x v => match x.ev fr with
    | .ref (some (o, off)) => match σ.objs[o]? with
      | some cs => (v.ev fr).cells.length = n ∧ (v.ev fr).notTup = true ∧ off + n ≤ cs.length ∧ K .und { σ with objs := σ.objs.set o (spl cs off (v.ev fr).cells) }
      | none => False
    | _ => False
  | .nilck x => match x.ev fr with
    | .ref (some a) => K (.ref (some a)) σ
    | .gref g off => K (.gref g off) σ
    | .eptr cs => K (.eptr cs) σ
    | _ => False
  | .bin op x y => vbin op (x.ev fr) (y.ev fr) σ K
  | .eqB neg x y => match x.ev fr, y.ev fr with
    | .bool a, .bool b => K (.bool (if neg then !(a == b) else a == b)) σ
    | _, _ => False
  | .eqN q neg x y => match (x.ev fr).isNil q, (y.ev fr).isNil q with
    | some a, some true => K (.bool (if neg then !a else a)) σ
    | _, _ => False
  | .un op x => vun op (x.ev fr) σ K
  | .cvI k x => match x.ev fr with
    | .int _ n => K (.int k (k.wrap n)) σ
    | _ => False
  | .cvS x => match x.ev fr with
    | .str s => K (.str s) σ
    | _ => False
  | .cvBS x => match x.ev fr with
    | .slc false _ _ => K (.str []) σ
    | .slc true xs _ => match vbytes xs with
      | some s => K (.str s) σ
      | none => False
    | _ => False
  | .cvSB x => match x.ev fr with
    | .str s => s.length ≤ big ∧ K (.slc true (bytesV s) .no) σ
    | _ => False
  | .cvIS x => match x.ev fr with
    | .int _ n => K (.str (Utf8.encode n).data.toList) σ
    | _ => False
  | .mkI t x => K (.iface t (x.ev fr)) σ
  | .mkF f fs cs => K (.fn f (fs.map (·.ev fr)) (cs.map (·.ev fr))) σ
  | .slS x lo hi => match x.ev fr with
    | .str s => vcut s.length (lo.map (·.ev fr)) (hi.map (·.ev fr)) (cutSK K σ s)
    | _ => False
  | .slV sz x lo hi => match x.ev fr with
    | .slc true xs _ => (∀ y ∈ xs, y.cells.length = sz) ∧ vcut xs.length (lo.map (·.ev fr)) (hi.map (·.ev fr)) (cutVK K σ xs)
    | .slc false _ _ => vcut 0 (lo.map (·.ev fr)) (hi.map (·.ev fr)) (cutNK K σ)
    | _ => False
  | .fadr off x => match x.ev fr with
    | .ref (some (o, a)) => K (.ref (some (o, a + off))) σ
    | .gref g a => K (.gref g (a + off)) σ
    | .eptr cs => off ≤ cs.length ∧ K (.eptr (cs.drop off)) σ
    | _ => False
  | .fldL off x => match x.ev fr with
    | .agg cs => match cs.drop off with
      | v :: _ => K v σ
      | [] => False
    | _ => False
  | .fldA off n x => match x.ev fr with
    | .agg cs => K (.agg ((cs.drop off).take n)) σ
    | _ => False
  | .iadV sz x i => match x.ev fr, i.ev fr with
    | .slc _ xs _, .int _ n => (0 ≤ n ∧ n < xs.length) ∧ (∀ y ∈ xs, y.cells.length = sz) ∧ K (.eptr (xs.getD n.toNat .und).cells) σ
    | _, _ => False
  | .iadA len sz x i => match x.ev fr, i.ev fr with
    | .ref (some (o, a)), .int _ n => (0 ≤ n ∧ n < len) ∧ K (.ref (some (o, a + n.toNat * sz))) σ
    | .gref g a, .int _ n => (0 ≤ n ∧ n < len) ∧ K (.gref g (a + n.toNat * sz)) σ
    | .eptr cs, .int _ n => (0 ≤ n ∧ n < len) ∧ n.toNat * sz ≤ cs.length ∧ K (.eptr (cs.drop (n.toNat * sz))) σ
    | _, _ => False
  | .idxS x i => match x.ev fr, i.ev fr with
    | .str s, .int _ n => (0 ≤ n ∧ n < s.length) ∧ K (.int .u8 ((s.getD n.toNat 0).toNat : Int)) σ
    | _, _ => False
  | .idxL len x i => match x.ev fr, i.ev fr with
    | .agg cs, .int _ n => (0 ≤ n ∧ n < len ∧ n < cs.length) ∧ K (cs.getD n.toNat .und) σ
    | _, _ => False
  | .idxA len sz x i => match x.ev fr, i.ev fr with
    | .agg cs, .int _ n => (0 ≤ n ∧ n < len) ∧ K (.agg ((cs.drop (n.toNat * sz)).take sz)) σ
    | _, _ => False
  | .tas t x => match x.ev fr with
    | .iface t' v => t' = t ∧ K v σ
    | _ => False
  | .tasOk t z x => match x.ev fr with
    | .iface t' v => if t' = t then K (.tup [v, .bool true]) σ else K (.tup [z, .bool false]) σ
    | .nilI => K (.tup [z, .bool false]) σ
    | _ => False
  | .ext x i => match x.ev fr with
    | .tup vs => match vs[i]? with
      | some v => K v σ
      | none => False
    | _ => False
  | .lenS x => match x.ev fr with
    | .str s => K (.int .i64 s.length) σ
    | _ => False
  | .lenV x => match x.ev fr with
    | .slc _ xs _ => K (.int .i64 xs.length) σ
    | _ => False
  | .lenA n => K (.int .i64 n) σ
  | .app e sz _ x y => match y.ev fr with
    | .slc _ ys _ => vapp e sz σ (x.ev fr) ys K
    | _ => False
  | .appS e x y => match y.ev fr with
    | .str s => vapp e 1 σ (x.ev fr) (bytesV s) K
    | _ => False
  | .mx xs => match xs.map (·.ev fr) with
    | [a, b] => match vmax2 a b with
      | some v => K v σ
      | none => False
    | _ => False
  | .mn xs => match xs.map (·.ev fr) with
    | [a, b] => match vmin2 a b with
      | some v => K v σ
      | none => False
    | _ => False
  | .mkM => K (.mp (some σ.maps.length)) { σ with maps := σ.maps ++ [[]] }
  | .lenM x => match x.ev fr with
    | .mp none => K (.int .i64 0) σ
    | .mp (some r) => match σ.maps[r]? with
      | some es => K (.int .i64 es.length) σ
      | none => False
    | _ => False
  | .look q z ok x i => (i.ev fr).isK q = true ∧ match x.ev fr with
    | .mp none => K (if ok then .tup [z, .bool false] else z) σ
    | .mp (some r) => match σ.maps[r]? with
      | some es => (∀ e ∈ es, V.kin (i.ev fr) e.1 = true) ∧ (match mfind (i.ev fr) es with
        | some v => K (if ok then .tup [v, .bool true] else v) σ
        | none => K (if ok then .tup [z, .bool false] else z) σ)
      | none => False
    | _ => False
  | .mset q x i v => (i.ev fr).isK q = true ∧ match x.ev fr with
    | .mp (some r) => match σ.maps[r]? with
      | some es => (∀ e ∈ es, V.kin (i.ev fr) e.1 = true) ∧ K .und { σ with maps := σ.maps.set r (mput (i.ev fr) (v.ev fr) es) }
      | none => False
    | _ => False
  | .cvUP x => match x.ev fr with
    | .ref (some (o, 0)) => match σ.objs[o]? with
      | some cs => 0 < cs.length ∧ K (.ref (some (o, 0))) σ
      | none => False
    | .ref none => K (.ref none) σ
    | _ => False
  | .cvPU u n x => match x.ev fr with
    | .ref (some (o, 0)) => match σ.objs[o]? with
      | some cs => σ.tys[o]? = some u ∧ n ≤ cs.length ∧ K (.ref (some (o, 0))) σ
      | none => False
    | .ref none => K (.ref none) σ
    | _ => False
  | .eqP neg x y => match x.ev fr, y.ev fr with
    | .ref (some a), .ref (some b) => a = b ∧ K (.bool !neg) σ
    | _, _ => False
  | .usd x => match x.ev fr with
    | .slc false _ _ => K (.ref none) σ
    | .slc true xs (.own i) => match σ.tts[i]? with
      | some e => σ.toks[i]? = some xs.length ∧ xs ≠ [] ∧ (∀ y ∈ xs, y.cells.length = 1 ∧ y.one = true) ∧ K (.sptr xs e) σ
      | none => False
    | _ => False
  | .ustr u x n => match x.ev fr, n.ev fr with
    | .ref none, .int .i64 n => n = 0 ∧ K (.str []) σ
    | .sptr cs e, .int .i64 n => match vbytes cs with
      | some s => e = u ∧ n = s.length ∧ s.length ≤ big ∧ s ≠ [] ∧ K (.str s) σ
      | none => False
    | _, _ => False
  | .ixB x c => match x.ev fr, c.ev fr with
    | .str s, .int .u8 n => K (.int .i64 (ixByte s n)) σ
    | _, _ => False

/-! ### How the program's operations are read -/

def cvalL : Value → Option V
  | .bool b => some (.bool b)
  | .int k n => some (.int k n)
  | .string s => some (.str s.data.toList)
  | .pointer none => some (.ref none)
  | .slice none 0 0 => some (.slc false [] .no)
  | .nilIface => some .nilI
  | .nilFunc => some .nilF
  | .map none => some (.mp none)
  | _ => none

def cval : Value → Option V
  | .agg cs => (cs.toList.mapM cvalL).map .agg
  | .tuple vs => if vs.size = 0 then some .und else none
  | v => cvalL v

def copd (m : Nat) : Operand → Option Opd
  | .tmp t => if t < m then some (.t t) else none
  | .const v => (cval v).map .c
  | .global g => some (.c (.gref g 0))
  | .func f => some (.c (.fn (.func f) [] []))

def copdO (m : Nat) : Option Operand → Option (Option Opd)
  | none => some none
  | some x => (copd m x).map some

def isAggD : TypeDesc → Bool
  | .struct _ | .array _ _ => true
  | _ => false

def nilKind : TypeDesc → Option NK
  | .pointer _ => some .p
  | .slice _ => some .s
  | .interface _ => some .i
  | .func _ _ _ => some .f
  | .map _ _ => some .m
  | _ => none

def keyKind : TypeDesc → Option KQ
  | .int _ => some .i
  | .string => some .s
  | .bool => some .b
  | _ => none

def isNilConst : Operand → Bool
  | .const (.pointer none) | .const (.slice none 0 0) | .const .nilIface | .const .nilFunc | .const (.map none) => true
  | _ => false

def seqParts : Nat → List (Nat × Operand) → Bool
  | _, [] => true
  | i, (j, _) :: r => i == j && seqParts (i + 1) r

def fieldAtP (P : Program) (fs : Array Field) (i : Nat) : Option (Nat × Nat) :=
  match fs[i]? with
  | some f => (P.info? f.type).map fun fi => (f.offset, fi.size)
  | none => none

/-- An operation that calls no Go function, read. 'm': how many temporaries there are. -/
def cop (P : Program) (m : Nat) (o : Oper) : Option VOp :=
  match o.op with
  | .move x | .assign x => (copd m x).map .mov
  | .pick c a b => do pure (.pick (← copd m c) (← copd m a) (← copd m b))
  | .alloc e => do
    let i ← P.info? e
    let z ← i.zero
    let zv ← cval z
    match zv with
    | .tup _ => none
    | _ => pure (.alloc e zv.cells)
  | .box e x => (copd m x).map (.box e)
  | .build t ps => do
    let i ← P.info? t
    let z ← i.zero
    let zv ← cval z
    let .agg zs := zv | none
    match P.underlying t with
    | some (.struct fs) => do
      let qs ← ps.toList.mapM fun (p : Nat × Operand) => do pure ((← fieldAtP P fs p.1), (← copd m p.2))
      if fs.toList.all fun f => (P.info? f.type).isSome then pure (.build zs qs) else none
    | some (.array _ e) => do
      let ei ← P.info? e
      let qs ← ps.toList.mapM fun (p : Nat × Operand) => do pure ((← some (p.1 * ei.size, ei.size)), (← copd m p.2))
      pure (.build zs qs)
    | _ => none
  | .buildSlice t len ps =>
    match P.underlying t with
    | some (.slice e) => do
      let ei ← P.info? e
      let z ← ei.zero
      if seqParts 0 ps.toList && ps.size == len && decide (len * ei.size ≤ 16777216) && z.cells.size == ei.size && decide (0 < ei.size) then
        pure (.bslc ei.size (← ps.toList.mapM fun (p : Nat × Operand) => copd m p.2))
      else none
    | _ => none
  | .load t x =>
    match P.underlying t with
    | some d => if isAggD d then do
        let i ← P.info? t
        pure (.loadA i.size (← copd m x))
      else (copd m x).map .loadL
    | none => none
  | .store t x v => do
    let i ← P.info? t
    pure (.store i.size (← copd m x) (← copd m v))
  | .nilCheck x => (copd m x).map .nilck
  | .binOp op xt x y _ =>
    match P.underlying xt with
    | some (.int _) | some .string => do pure (.bin op (← copd m x) (← copd m y))
    | some .bool => match op with
      | .eql => do pure (.eqB false (← copd m x) (← copd m y))
      | .neq => do pure (.eqB true (← copd m x) (← copd m y))
      | _ => none
    | some d => if isNilConst y then do
        let q ← nilKind d
        match op with
        | .eql => pure (.eqN q false (← copd m x) (← copd m y))
        | .neq => pure (.eqN q true (← copd m x) (← copd m y))
        | _ => none
      else match d with
        | .pointer e => do
          let i ← P.info? e
          if i.size = 0 then none else match op with
          | .eql => do pure (.eqP false (← copd m x) (← copd m y))
          | .neq => do pure (.eqP true (← copd m x) (← copd m y))
          | _ => none
        | _ => none
    | none => none
  | .unOp op _ x => (copd m x).map (.un op)
  | .convert src dst x =>
    match P.underlying src, P.underlying dst with
    | some (.int _), some (.int k) => (copd m x).map (.cvI k)
    | some (.int _), some .string => (copd m x).map .cvIS
    | some .string, some .string => (copd m x).map .cvS
    | some (.slice e), some .string => match P.underlying e with
      | some (.int .u8) => (copd m x).map .cvBS
      | _ => none
    | some .string, some (.slice e) => match P.underlying e with
      | some (.int .u8) => (copd m x).map .cvSB
      | _ => none
    | some (.pointer e), some .unsafePointer => do
      let i ← P.info? e
      if i.size = 0 then none else (copd m x).map .cvUP
    | some .unsafePointer, some (.pointer u) => do
      let i ← P.info? u
      if i.size = 0 then none else (copd m x).map (.cvPU u i.size)
    | _, _ => none
  | .makeInterface t x => match P.underlying t with
    | some (.interface _) => none
    | some _ => (copd m x).map (.mkI t)
    | none => none
  | .makeFunc f fs cs => do pure (.mkF f (← fs.toList.mapM (copd m)) (← cs.toList.mapM (copd m)))
  | .slice t x lo hi none =>
    match P.underlying t with
    | some .string => do pure (.slS (← copd m x) (← copdO m lo) (← copdO m hi))
    | some (.slice e) => do
      let i ← P.info? e
      pure (.slV i.size (← copd m x) (← copdO m lo) (← copdO m hi))
    | _ => none
  | .fieldAddr s x f =>
    match P.underlying s with
    | some (.struct fs) => do
      let fd ← fs[f]?
      let i ← P.info? fd.type
      if i.size = 0 then none else pure (.fadr fd.offset (← copd m x))
    | _ => none
  | .field t x f =>
    match P.underlying t with
    | some (.struct fs) => do
      let fd ← fs[f]?
      let i ← P.info? fd.type
      match P.underlying fd.type with
      | some d => if isAggD d then pure (.fldA fd.offset i.size (← copd m x)) else pure (.fldL fd.offset (← copd m x))
      | none => none
    | _ => none
  | .indexAddr t x i =>
    match P.underlying t with
    | some (.slice e) => do
      let ei ← P.info? e
      pure (.iadV ei.size (← copd m x) (← copd m i))
    | some (.array n e) => do
      let ei ← P.info? e
      pure (.iadA n ei.size (← copd m x) (← copd m i))
    | _ => none
  | .index t x i =>
    match P.underlying t with
    | some .string => do pure (.idxS (← copd m x) (← copd m i))
    | some (.array n e) => do
      let ei ← P.info? e
      match P.underlying e with
      | some d => if isAggD d then pure (.idxA n ei.size (← copd m x) (← copd m i)) else if ei.size = 1 then pure (.idxL n (← copd m x) (← copd m i)) else none
      | none => none
    | _ => none
  | .typeAssert x _ t ok =>
    match P.underlying t with
    | some (.interface _) => none
    | some _ => if ok then do
        let i ← P.info? t
        let z ← i.zero
        pure (.tasOk t (← cval z) (← copd m x))
      else (copd m x).map (.tas t)
    | none => none
  | .extract x i => do pure (.ext (← copd m x) i)
  | .call { callee := .builtin b, args, argTypes } =>
    match b, args.toList, argTypes.toList with
    | .len, [x], [t] => match P.underlying t with
      | some .string => (copd m x).map .lenS
      | some (.slice _) => (copd m x).map .lenV
      | some (.array n _) => some (.lenA n)
      | some (.map _ _) => (copd m x).map .lenM
      | _ => none
    | .append, [x, y], [t, u] => match P.underlying t, P.underlying u with
      | some (.slice e), some (.slice _) => do
        let ei ← P.info? e
        let z ← ei.zero
        let zv ← cval z
        if zv.cells.length = ei.size ∧ ei.bytes ≤ 4096 ∧ 0 < ei.size then pure (.app e ei.size zv.cells (← copd m x) (← copd m y)) else none
      | some (.slice e), some .string => do
        let ei ← P.info? e
        let z ← ei.zero
        match z with
        | .int .u8 0 => if ei.size = 1 ∧ ei.bytes = 1 then pure (.appS e (← copd m x) (← copd m y)) else none
        | _ => none
      | _, _ => none
    | .max, [x, y], _ => do pure (.mx [← copd m x, ← copd m y])
    | .min, [x, y], _ => do pure (.mn [← copd m x, ← copd m y])
    | .unsafeSliceData, [x], _ => (copd m x).map .usd
    | .unsafeString, [x, y], [t, _] => match P.underlying t with
      | some (.pointer u) => match P.underlying u with
        | some (.int .u8) => if P.cellsOf u = 1 then do pure (.ustr u (← copd m x) (← copd m y)) else none
        | _ => none
      | _ => none
    | _, _, _ => none
  | .makeMap t none => match P.underlying t with
    | some (.map _ _) => some .mkM
    | _ => none
  | .lookup t x i ok => match P.underlying t with
    | some (.map k e) => do
      let ei ← P.info? e
      let z ← ei.zero
      let kd ← P.underlying k
      let q ← keyKind kd
      pure (.look q (← cval z) ok (← copd m x) (← copd m i))
    | _ => none
  | .mapUpdate t x i v | .insert t x i v => match P.underlying t with
    | some (.map k _) => do
      let kd ← P.underlying k
      let q ← keyKind kd
      pure (.mset q (← copd m x) (← copd m i) (← copd m v))
    | _ => none
  | _ => none

end Go.Vs

namespace Go.Vs

/-- What a run of one operation must show. -/
def Snd (μ : Mem) (w : World) (r : Result Next) (K : V → St → Prop) : Prop :=
  ∃ v σ' u w' μ', (r = .ok (.value u) w' ∨ (r = .ok .skip w' ∧ u = undef)) ∧ Ev μ w μ' w' ∧ Rel μ' σ' w' ∧ RV μ' w' v u ∧ K v σ'

/-- The operands, read. -/
def Ops (m : Nat) (μ : Mem) (w : World) (fr : Fr) (ρ : Operand → Value) : Prop := ∀ x y, copd m x = some y → RV μ w (y.ev fr) (ρ x)

section
variable {P : Program} {m : Nat} {μ : Mem} {w : World} {fr : Fr} {ρ : Operand → Value} {σ : St} {K : V → St → Prop} {r : Result Next}

theorem Snd.val {v : V} {u : Value} (hr : r = .ok (.value u) w) (hrel : Rel μ σ w) (hv : RV μ w v u) (hk : K v σ) : Snd μ w r K :=
  ⟨v, σ, u, w, μ, .inl hr, Ev.refl μ w, hrel, hv, hk⟩

theorem cvalL_sound {x : Value} {v : V} (h : cvalL x = some v) : RV μ w v x := by
  unfold cvalL at h
  split at h <;> cases h
  · exact .bool _
  · exact .int _ _
  · exact .str _
  · exact .nilp
  · exact .nils
  · exact .nilI
  · exact .nilF
  · exact .nilM

theorem cvalL_one {x : Value} {v : V} (h : cvalL x = some v) : x.oneCell' = true := by
  unfold cvalL at h
  split at h <;> cases h <;> rfl

theorem mapM_cvalL : ∀ {l : List Value} {vs : List V}, l.mapM cvalL = some vs → RVs μ w vs l ∧ ∀ u ∈ l, u.oneCell' = true
  | [], vs, h => by
    simp only [List.mapM_nil, Option.pure_def, Option.some.injEq] at h
    subst h
    exact ⟨⟨rfl, fun i hi => by simp at hi⟩, by simp⟩
  | x :: l, vs, h => by
    simp only [List.mapM_cons, Option.bind_eq_bind, Option.bind_eq_some_iff, Option.pure_def, Option.some.injEq] at h
    obtain ⟨v, hv, r, hr, rfl⟩ := h
    obtain ⟨⟨h1, h2⟩, h3⟩ := mapM_cvalL hr
    refine ⟨⟨by simp [h1], fun i hi => ?_⟩, fun u hu => ?_⟩
    · cases i with
      | zero => simpa using cvalL_sound hv
      | succ i => simpa using h2 i (by simpa using hi)
    · simp only [List.mem_cons] at hu
      rcases hu with rfl | hu
      · exact cvalL_one hv
      · exact h3 u hu

theorem cval_sound {x : Value} {v : V} (h : cval x = some v) : RV μ w v x := by
  unfold cval at h
  split at h
  · rename_i cs
    simp only [Option.map_eq_some_iff] at h
    obtain ⟨vs, hvs, rfl⟩ := h
    obtain ⟨⟨h1, h2⟩, h3⟩ := mapM_cvalL (μ := μ) (w := w) hvs
    have := RV.agg (μ := μ) (w := w) vs cs.toList h1 h3 h2
    simpa using this
  · rename_i vs
    split at h
    · rename_i h0
      simp only [Option.some.injEq] at h
      subst h
      have : vs = #[] := by simpa using h0
      subst this
      exact RV.tup (μ := μ) (w := w) [] [] rfl (fun i hi => by simp at hi)
    · cases h
  · exact cvalL_sound h

theorem copd_const {x : Operand} {y : Opd} (hm : ∀ t, t < m → RV μ w (fr t) (ρ (.tmp t))) (hc : ∀ v, ρ (.const v) = v) (hg : ∀ g, ρ (.global g) = .pointer (some ⟨g, 0, none⟩))
    (hf : ∀ f, ρ (.func f) = .func (.func f) #[] #[]) (h : copd m x = some y) : RV μ w (y.ev fr) (ρ x) := by
  cases x with
  | tmp t =>
    simp only [copd] at h
    split at h
    · simp only [Option.some.injEq] at h; subst h; exact hm t ‹_›
    · cases h
  | const v =>
    simp only [copd, Option.map_eq_some_iff] at h
    obtain ⟨v', hv', rfl⟩ := h
    rw [hc]
    exact cval_sound hv'
  | «global» g =>
    simp only [copd, Option.some.injEq] at h
    subst h
    rw [hg]
    exact .gref g 0
  | func f =>
    simp only [copd, Option.some.injEq] at h
    subst h
    rw [hf]
    exact RV.fn (μ := μ) (w := w) _ [] [] [] [] rfl (fun i hi => by simp at hi) rfl (fun i hi => by simp at hi)

/-! ### Readings turned round -/
theorem RV.ofBool {b : Bool} {u : Value} (h : RV μ w (.bool b) u) : u = .bool b := by cases h; rfl
theorem RV.ofInt {k : IntKind} {n : Int} {u : Value} (h : RV μ w (.int k n) u) : u = .int k n := by cases h; rfl
theorem RV.ofStr {s : List UInt8} {u : Value} (h : RV μ w (.str s) u) : ∃ b : ByteArray, u = .string b ∧ b.data.toList = s := by
  cases h with
  | str b => exact ⟨b, rfl, rfl⟩
theorem RV.mkStr (s : List UInt8) (b : ByteArray) (h : b.data.toList = s) : RV μ w (.str s) (.string b) := by subst h; exact .str b

theorem size_eq_length (b : ByteArray) : b.size = b.data.toList.length := by cases b; rfl

theorem underlying_run {t : TypeId} {d : TypeDesc} (h : P.underlying t = some d) (w : World) : (underlying t).run P w = .ok d w := by
  simp [underlying, h]
theorem typeInfo_run {t : TypeId} {i : TypeInfo} (h : P.info? t = some i) (w : World) : (typeInfo t).run P w = .ok i w := by
  simp [typeInfo, h]
theorem sizeOf_run {t : TypeId} {i : TypeInfo} (h : P.info? t = some i) (w : World) : (Go.sizeOf t).run P w = .ok i.size w := by
  simp [Go.sizeOf, typeInfo, h]
theorem zeroValue_run {t : TypeId} {i : TypeInfo} {z : Value} (h : P.info? t = some i) (hz : i.zero = some z) (w : World) : (zeroValue t).run P w = .ok z w := by
  simp [zeroValue, typeInfo, h, hz]
theorem isAgg_run {t : TypeId} {d : TypeDesc} (h : P.underlying t = some d) (w : World) : (isAgg t).run P w = .ok (isAggD d) w := by
  unfold isAgg
  rw [Sem.run_bind, underlying_run h]
  cases d <;> rfl

/-! ### The operations -/
theorem snd_bin {op : BinOp} {xt : TypeId} {x y : Operand} {a b : V} (hx : RV μ w a (ρ x)) (hy : RV μ w b (ρ y)) (hrel : Rel μ σ w)
    (h : vbin op a b σ K) : Snd μ w ((do pure (Next.value (← (do eqGuard op xt x y (ρ x) (ρ y); binOp op xt (ρ x) (ρ y)))) : Sem Next).run P w) K := by
  unfold vbin at h
  split at h
  · rename_i k a k' b
    have ex := hx.ofInt
    have ey := hy.ofInt
    rw [ex, ey]
    have hg : (eqGuard op xt x y (.int k a) (.int k' b)).run P w = .ok () w := by
      unfold eqGuard
      split <;> rfl
    cases op <;> dsimp only at h
    case shl =>
      obtain ⟨h1, h2⟩ := h
      refine Snd.val (v := _) ?_ hrel (.int _ _) h2
      simp [hg, binOp, Op.shift, Int.not_lt.2 h1]
    case shr =>
      obtain ⟨h1, h2⟩ := h
      refine Snd.val (v := _) ?_ hrel (.int _ _) h2
      simp [hg, binOp, Op.shift, Int.not_lt.2 h1]
    all_goals (obtain ⟨rfl, h2⟩ := h; simp only [vbinI] at h2)
    case quo =>
      obtain ⟨h1, h2⟩ := h2
      refine Snd.val (v := _) ?_ hrel (.int _ _) h2
      simp [hg, binOp, Op.intDiv, h1]
    case rem =>
      obtain ⟨h1, h2⟩ := h2
      refine Snd.val (v := _) ?_ hrel (.int _ _) h2
      simp [hg, binOp, Op.intDiv, h1]
    all_goals
      refine Snd.val (v := _) ?_ hrel (by first | exact .int _ _ | exact .bool _) h2
      simp [hg, binOp, Op.intArith, Op.intBits, Op.intCmp, ibits]
  · rename_i a b
    obtain ⟨sa, ex, ha⟩ := hx.ofStr
    obtain ⟨sb, ey, hb⟩ := hy.ofStr
    rw [ex, ey]
    have hg : (eqGuard op xt x y (.string sa) (.string sb)).run P w = .ok () w := by
      unfold eqGuard
      split <;> rfl
    have la : sa.size = a.length := by rw [size_eq_length, ha]
    have lb : sb.size = b.length := by rw [size_eq_length, hb]
    cases op <;> dsimp only at h <;> try exact h.elim
    case add =>
      obtain ⟨h1, h2⟩ := h
      unfold big at h1
      have hn : ¬ (9223372036854775807 : Int) < ((sa.size + sb.size : Nat) : Int) := by omega
      refine Snd.val (v := _) (u := .string (sa ++ sb)) ?_ hrel (RV.mkStr _ _ ?_) h2
      · simp [hg, binOp, Op.stringOp, IntKind.max, IntKind.signed, IntKind.bits]
        omega
      · have : (sa ++ sb).data.toList = sa.data.toList ++ sb.data.toList := by simp
        rw [this, ha, hb]
    all_goals
      refine Snd.val (v := _) ?_ hrel (.bool _) h
      simp [hg, binOp, Op.stringOp, ByteArray.toList_eq, ha, hb]
  · exact h.elim

end
end Go.Vs

namespace Go.Vs
section
variable {P : Program} {m : Nat} {μ : Mem} {w : World} {fr : Fr} {ρ : Operand → Value} {σ : St} {K : V → St → Prop} {r : Result Next}

theorem snd_pick {c a b : Value} {vc va vb : V} (hc : RV μ w vc c) (ha : RV μ w va a) (hb : RV μ w vb b) (hrel : Rel μ σ w)
    (h : match (generalizing := false) vc with | .bool t => K (bif t then va else vb) σ | _ => False) :
    Snd μ w ((do pure (Next.value (if ← asBool c then a else b)) : Sem Next).run P w) K := by
  cases vc with
  | bool t => cases t <;> (rw [hc.ofBool]; first | exact Snd.val (by simp [asBool]) hrel ha h | exact Snd.val (by simp [asBool]) hrel hb h)
  | _ => exact h.elim

theorem equalIn_bool (d : Nat) {t : TypeId} (hu : P.underlying t = some .bool) (a b : Bool) : (Op.equalIn (d + 1) t (.bool a) (.bool b)).run P w = .ok (a == b) w := by
  simp [Op.equalIn, underlying_run hu]
theorem equal_of {t : TypeId} {x y : Value} {r : Result Bool} (h : ∀ d, (Op.equalIn (d + 1) t x y).run P w = r) : (Op.equal t x y).run P w = r := h 9999

theorem snd_eqB {op : BinOp} {xt : TypeId} {x y : Operand} {a b : V} (neg : Bool) (ho : op = if neg then .neq else .eql) (hu : P.underlying xt = some .bool) (hx : RV μ w a (ρ x)) (hy : RV μ w b (ρ y)) (hrel : Rel μ σ w)
    (h : match (generalizing := false) a, b with | .bool a, .bool b => K (.bool (if neg then !(a == b) else a == b)) σ | _, _ => False) :
    Snd μ w ((do pure (Next.value (← (do eqGuard op xt x y (ρ x) (ρ y); binOp op xt (ρ x) (ρ y)))) : Sem Next).run P w) K := by
  split at h
  · rename_i a b
    rw [hx.ofBool, hy.ofBool]
    refine Snd.val (v := _) ?_ hrel (.bool _) h
    have he := equal_of (P := P) (w := w) (t := xt) (fun d => equalIn_bool d hu a b)
    cases neg <;> subst ho <;> simp [eqGuard, binOp, he]
  · exact h.elim

def NonNil : NK → Value → Prop
  | .p, u => ∃ a, u = .pointer (some a)
  | .s, u => ∃ a n c, u = .slice (some a) n c
  | .i, u => ∃ t v, u = .iface t v
  | .f, u => ∃ f a b, u = .func f a b
  | .m, u => ∃ a, u = .map (some a)

def nilOf : NK → Value
  | .p => .pointer none
  | .s => .slice none 0 0
  | .i => .nilIface
  | .f => .nilFunc
  | .m => .map none

theorem isNil_false {q : NK} {a : V} {u : Value} (hx : RV μ w a u) (h : a.isNil q = some false) : NonNil q u := by
  cases hx <;> cases q <;> cases h <;> unfold NonNil <;> first | exact ⟨_, rfl⟩ | exact ⟨_, _, rfl⟩ | exact ⟨_, _, _, rfl⟩

theorem isNil_true {q : NK} {a : V} {u : Value} (hx : RV μ w a u) (h : a.isNil q = some true) : u = nilOf q := by
  cases hx <;> cases q <;> first | rfl | cases h

theorem equalIn_nil (d : Nat) {t : TypeId} {D : TypeDesc} {q : NK} (hu : P.underlying t = some D) (hd : nilKind D = some q) {x y : Value} {a b : V} (n : Bool) (hx : RV μ w a x) (hy : RV μ w b y)
    (ha : a.isNil q = some n) (hb : b.isNil q = some true) : (Op.equalIn (d + 1) t x y).run P w = .ok n w := by
  have eb := isNil_true hy hb
  cases D <;> simp only [nilKind, Option.some.injEq, reduceCtorEq] at hd <;> subst hd <;> simp only [nilOf] at eb
  all_goals
    cases n
    · have ea := isNil_false hx ha
      simp only [NonNil, nilOf] at ea
      first
        | (obtain ⟨p, ea⟩ := ea; rw [ea, eb])
        | (obtain ⟨p, n, ea⟩ := ea; rw [ea, eb])
        | (obtain ⟨p, n, c, ea⟩ := ea; rw [ea, eb])
      simp [Op.equalIn, underlying_run hu]
    · have ea := isNil_true hx ha
      simp only [NonNil, nilOf] at ea
      rw [ea, eb]
      simp [Op.equalIn, underlying_run hu]

theorem binOp_eql_nil {t : TypeId} {q : NK} {x y : Value} {a b : V} (n : Bool) (hx : RV μ w a x) (hy : RV μ w b y) (ha : a.isNil q = some n) (hb : b.isNil q = some true) :
    binOp .eql t x y = (do pure (.bool (← Op.equal t x y))) ∧ binOp .neq t x y = (do pure (.bool (!(← Op.equal t x y)))) := by
  have eb := isNil_true hy hb
  cases n
  · have ea := isNil_false hx ha
    cases q <;> simp only [NonNil, nilOf] at ea eb <;> subst eb
    all_goals
      first
        | (obtain ⟨p, rfl⟩ := ea; exact ⟨rfl, rfl⟩)
        | (obtain ⟨p, n, rfl⟩ := ea; exact ⟨rfl, rfl⟩)
        | (obtain ⟨p, n, c, rfl⟩ := ea; exact ⟨rfl, rfl⟩)
  · have ea := isNil_true hx ha
    cases q <;> simp only [NonNil, nilOf] at ea eb <;> subst ea eb <;> exact ⟨rfl, rfl⟩

theorem eqGuard_nil {op : BinOp} {xt : TypeId} {x y : Operand} (hc : isNilConst y = true) (u : Value) (hu : ∀ cs, u ≠ .agg cs) (ny : Value) : (eqGuard op xt x y u ny).run P w = .ok () w := by
  have hy : ∃ v, y = .const v := by
    cases y <;> simp_all [isNilConst]
  obtain ⟨v, rfl⟩ := hy
  unfold eqGuard
  cases u with
  | agg cs => exact absurd rfl (hu cs)
  | nilIface => cases ny <;> simp
  | _ => cases ny <;> simp

theorem snd_eqN {op : BinOp} {xt : TypeId} {x y : Operand} {a b : V} {d : TypeDesc} {q : NK} (neg : Bool) (ho : op = if neg then .neq else .eql) (hu : P.underlying xt = some d) (hd : nilKind d = some q) (hc : isNilConst y = true)
    (hx : RV μ w a (ρ x)) (hy : RV μ w b (ρ y)) (hrel : Rel μ σ w)
    (h : match (generalizing := false) a.isNil q, b.isNil q with | some a, some true => K (.bool (if neg then !a else a)) σ | _, _ => False) :
    Snd μ w ((do pure (Next.value (← (do eqGuard op xt x y (ρ x) (ρ y); binOp op xt (ρ x) (ρ y)))) : Sem Next).run P w) K := by
  split at h
  · rename_i n ha hb
    have eb := isNil_true hy hb
    have hgo : ∀ cs, ρ x ≠ .agg cs := by
      cases n
      · have := isNil_false hx ha
        cases q <;> simp only [NonNil] at this <;> (intro cs hcs; simp [hcs] at this)
      · rw [isNil_true hx ha]; cases q <;> simp [nilOf]
    refine Snd.val (v := _) (u := .bool (if neg then !n else n)) ?_ hrel (.bool _) h
    have hg : (eqGuard op xt x y (ρ x) (ρ y)).run P w = .ok () w := eqGuard_nil hc _ hgo _
    have he := equal_of (P := P) (w := w) (t := xt) (fun d => equalIn_nil d hu hd n hx hy ha hb)
    obtain ⟨e1, e2⟩ := binOp_eql_nil (t := xt) n hx hy ha hb
    have key : (binOp op xt (ρ x) (ρ y)).run P w = .ok (.bool (if neg then !n else n)) w := by
      cases neg <;> subst ho
      · simp [e1, he]
      · simp [e2, he]
    simp [hg, key]
  · exact h.elim

theorem snd_un {op : UnOp} {x : Value} {a : V} (hx : RV μ w a x) (hrel : Rel μ σ w) (h : vun op a σ K) :
    Snd μ w ((do pure (Next.value (← Op.unary op x)) : Sem Next).run P w) K := by
  unfold vun at h
  split at h
  · rename_i k n; rw [hx.ofInt]; exact Snd.val (by simp [Op.unary, Op.intArith]) hrel (.int _ _) h
  · rename_i k n; rw [hx.ofInt]; exact Snd.val (by simp [Op.unary, Op.intBits, ibits]) hrel (.int _ _) h
  · rename_i b; rw [hx.ofBool]; exact Snd.val (by simp [Op.unary]) hrel (.bool _) h
  · exact h.elim

theorem snd_cvI {src dst : TypeId} {k : IntKind} {ks : IntKind} {x : Value} {a : V} (hs : P.underlying src = some (.int ks)) (hd : P.underlying dst = some (.int k)) (hx : RV μ w a x) (hrel : Rel μ σ w)
    (h : match (generalizing := false) a with | .int _ n => K (.int k (k.wrap n)) σ | _ => False) : Snd μ w ((do pure (Next.value (← convert src dst x)) : Sem Next).run P w) K := by
  split at h
  · rename_i kk n; rw [hx.ofInt]; exact Snd.val (by simp [convert, underlying_run hs, underlying_run hd, Conv.intToInt]) hrel (.int _ _) h
  · exact h.elim

theorem snd_cvIS {src dst : TypeId} {ks : IntKind} {x : Value} {a : V} (hs : P.underlying src = some (.int ks)) (hd : P.underlying dst = some .string) (hx : RV μ w a x) (hrel : Rel μ σ w)
    (h : match (generalizing := false) a with | .int _ n => K (.str (Utf8.encode n).data.toList) σ | _ => False) : Snd μ w ((do pure (Next.value (← convert src dst x)) : Sem Next).run P w) K := by
  split at h
  · rename_i kk n; rw [hx.ofInt]; exact Snd.val (by simp [convert, underlying_run hs, underlying_run hd, Conv.intToString]) hrel (.str _) h
  · exact h.elim

theorem snd_cvS {src dst : TypeId} {x : Value} {a : V} (hs : P.underlying src = some .string) (hd : P.underlying dst = some .string) (hx : RV μ w a x) (hrel : Rel μ σ w)
    (h : match (generalizing := false) a with | .str s => K (.str s) σ | _ => False) : Snd μ w ((do pure (Next.value (← convert src dst x)) : Sem Next).run P w) K := by
  split at h
  · rename_i s
    obtain ⟨b, rfl, hb⟩ := hx.ofStr
    exact Snd.val (by simp [convert, underlying_run hs, underlying_run hd]) hrel (RV.mkStr _ _ hb) h
  · exact h.elim

theorem snd_mkI {t : TypeId} {d : TypeDesc} {x : Value} {a : V} (hu : P.underlying t = some d) (hd : ∀ ms, d ≠ .interface ms) (hx : RV μ w a x) (hrel : Rel μ σ w)
    (h : K (.iface t a) σ) : Snd μ w ((do pure (Next.value (← Instr.makeInterface t x)) : Sem Next).run P w) K := by
  refine Snd.val (u := .iface t x) ?_ hrel (.iface _ _ _ hx) h
  cases d <;> simp [Instr.makeInterface, underlying_run hu]
  rename_i ms; exact absurd rfl (hd ms)

theorem mapM_copd (hρ : Ops m μ w fr ρ) : ∀ {l : List Operand} {ys : List Opd}, l.mapM (copd m) = some ys → RVs μ w (ys.map (·.ev fr)) (l.map ρ)
  | [], ys, h => by
    simp only [List.mapM_nil, Option.pure_def, Option.some.injEq] at h
    subst h
    exact ⟨rfl, fun i hi => by simp at hi⟩
  | x :: l, ys, h => by
    simp only [List.mapM_cons, Option.bind_eq_bind, Option.bind_eq_some_iff, Option.pure_def, Option.some.injEq] at h
    obtain ⟨v, hv, r, hr, rfl⟩ := h
    obtain ⟨h1, h2⟩ := mapM_copd hρ hr
    refine ⟨by simpa using h1, fun i hi => ?_⟩
    cases i with
    | zero => simpa using hρ x v hv
    | succ i => simpa using h2 i (by simpa using hi)

theorem snd_mkF {f : Fn} {fs cs : Array Operand} {fs' cs' : List Opd} (hρ : Ops m μ w fr ρ) (hf : fs.toList.mapM (copd m) = some fs') (hc : cs.toList.mapM (copd m) = some cs') (hrel : Rel μ σ w)
    (h : K (.fn f (fs'.map (·.ev fr)) (cs'.map (·.ev fr))) σ) : Snd μ w ((do pure (Next.value (← Instr.makeFunc f (fs.map ρ) (cs.map ρ))) : Sem Next).run P w) K := by
  obtain ⟨f1, f2⟩ := mapM_copd hρ hf
  obtain ⟨c1, c2⟩ := mapM_copd hρ hc
  refine Snd.val (u := .func f (fs.toList.map ρ).toArray (cs.toList.map ρ).toArray) ?_ hrel (.fn f _ _ _ _ f1 f2 c1 c2) h
  have e : ∀ l : Array Operand, l.map ρ = (l.toList.map ρ).toArray := fun l => by cases l; simp
  simp only [Instr.makeFunc, Sem.run_bind, Sem.run_pure, Result.andThen_ok, e]

/-- The bounds of a cut, run. -/
theorem cut_run {len cap : Nat} {isS : Bool} {lo hi : Option V} {lo' hi' : Option Value} (hl : ∀ a, lo = some a → ∃ u, lo' = some u ∧ RV μ w a u) (hl0 : lo = none → lo' = none)
    (hh : ∀ a, hi = some a → ∃ u, hi' = some u ∧ RV μ w a u) (hh0 : hi = none → hi' = none) (hcap : len ≤ cap) {K : Nat → Nat → Prop} (h : vcut len lo hi K) :
    ∃ l n, (Instr.sliceBounds isS len cap lo' hi' none).run P w = .ok (l, n, cap) w ∧ l ≤ n ∧ n ≤ len ∧ K l n := by
  unfold vcut at h
  split at h
  · rw [hl0 rfl, hh0 rfl]
    exact ⟨0, len, by simp [Instr.sliceBounds], Nat.zero_le _, Nat.le_refl _, h⟩
  · rename_i k l
    obtain ⟨u, e, hu⟩ := hl _ rfl
    rw [hh0 rfl, e, hu.ofInt]
    obtain ⟨⟨h1, h2⟩, h3⟩ := h
    exact ⟨l.toNat, len, by simp [Instr.sliceBounds, Instr.sliceBound, asIntOf, h1, h2], by omega, Nat.le_refl _, h3⟩
  · rename_i k n
    obtain ⟨u, e, hu⟩ := hh _ rfl
    rw [hl0 rfl, e, hu.ofInt]
    obtain ⟨⟨h1, h2⟩, h3⟩ := h
    have h2' : n ≤ (cap : Int) := by omega
    exact ⟨0, n.toNat, by simp [Instr.sliceBounds, Instr.sliceBound, asIntOf, h1, h2'], by omega, by omega, h3⟩
  · rename_i k l k' n
    obtain ⟨u, e, hu⟩ := hl _ rfl
    obtain ⟨u', e', hu'⟩ := hh _ rfl
    rw [e, hu.ofInt, e', hu'.ofInt]
    obtain ⟨⟨h1, h2⟩, ⟨h4, h5⟩, h3⟩ := h
    have h2' : n ≤ (cap : Int) := by omega
    have h5' : l ≤ ((n.toNat : Nat) : Int) := by omega
    have e1 : (0 : Int) ≤ n ∧ n ≤ (cap : Int) := ⟨h1, h2'⟩
    have e2 : (0 : Int) ≤ l ∧ l ≤ ((n.toNat : Nat) : Int) := ⟨h4, h5'⟩
    refine ⟨l.toNat, n.toNat, ?_, by omega, by omega, h3⟩
    simp only [Instr.sliceBounds, Instr.sliceBound, asIntOf, Sem.run_bind, Sem.run_pure, Result.andThen_ok, if_pos e1, if_pos e2]
  · exact h.elim

theorem extract_toList (b : ByteArray) (l h : Nat) : (b.extract l h).data.toList = cut b.data.toList l h := by
  unfold cut
  simp [ByteArray.data_extract, List.drop_take]

theorem snd_slS {t : TypeId} {x : Value} {a : V} {lo hi : Option V} {lo' hi' : Option Value} (hu : P.underlying t = some .string) (hx : RV μ w a x) (hrel : Rel μ σ w)
    (hl : ∀ a, lo = some a → ∃ u, lo' = some u ∧ RV μ w a u) (hl0 : lo = none → lo' = none) (hh : ∀ a, hi = some a → ∃ u, hi' = some u ∧ RV μ w a u) (hh0 : hi = none → hi' = none)
    (h : match (generalizing := false) a with | .str s => vcut s.length lo hi (cutSK K σ s) | _ => False) :
    Snd μ w ((do pure (Next.value (← Instr.sliceAt t x lo' hi' none)) : Sem Next).run P w) K := by
  split at h
  · rename_i s
    obtain ⟨b, rfl, hb⟩ := hx.ofStr
    obtain ⟨l, n, e, h1, h2, h3⟩ := cut_run (P := P) (isS := false) (cap := s.length) hl hl0 hh hh0 (Nat.le_refl _) h
    have hsz : b.size = s.length := by rw [size_eq_length, hb]
    refine Snd.val (u := .string (b.extract l n)) ?_ hrel (RV.mkStr _ _ (by rw [extract_toList, hb])) h3
    simp [Instr.sliceAt, Instr.slice, underlying_run hu, hsz, e]
  · exact h.elim

end
end Go.Vs

namespace Go.Vs
section
variable {P : Program} {m : Nat} {μ : Mem} {w : World} {fr : Fr} {ρ : Operand → Value} {σ : St} {K : V → St → Prop} {r : Result Next}

theorem RVs.get {cs : List V} {us : List Value} (h : RVs μ w cs us) {i : Nat} {v : V} (hv : cs[i]? = some v) : ∃ u, us[i]? = some u ∧ RV μ w v u := by
  have hi : i < cs.length := (List.getElem?_eq_some_iff.1 hv).1
  have hi' : i < us.length := by rw [← h.1]; exact hi
  refine ⟨us[i], List.getElem?_eq_getElem hi', ?_⟩
  have := h.2 i hi
  simpa [List.getD_eq_getElem?_getD, hv, List.getElem?_eq_getElem hi'] using this

theorem RVs.drop {cs : List V} {us : List Value} (h : RVs μ w cs us) (k : Nat) : RVs μ w (cs.drop k) (us.drop k) := by
  refine ⟨by simp [h.1], fun i hi => ?_⟩
  have := h.2 (k + i) (by simp at hi; omega)
  simpa [List.getD_eq_getElem?_getD, List.getElem?_drop] using this

theorem RVs.take {cs : List V} {us : List Value} (h : RVs μ w cs us) (k : Nat) : RVs μ w (cs.take k) (us.take k) := by
  refine ⟨by simp [h.1], fun i hi => ?_⟩
  simp only [List.length_take] at hi
  have := h.2 i (by omega)
  have hk : i < k := by omega
  simpa [List.getD_eq_getElem?_getD, List.getElem?_take, hk] using this

theorem RVs.append {cs ds : List V} {us vs : List Value} (h : RVs μ w cs us) (k : RVs μ w ds vs) : RVs μ w (cs ++ ds) (us ++ vs) := by
  refine ⟨by simp [h.1, k.1], fun i hi => ?_⟩
  simp only [List.length_append] at hi
  by_cases hc : i < cs.length
  · have hu : i < us.length := by rw [← h.1]; exact hc
    have := h.2 i hc
    simpa [List.getD_eq_getElem?_getD, List.getElem?_append, hc, hu] using this
  · have hu : ¬ i < us.length := by rw [← h.1]; exact hc
    have := k.2 (i - cs.length) (by omega)
    have e : cs.length = us.length := h.1
    simp only [List.getD_eq_getElem?_getD, List.getElem?_append, hc, hu, if_false] at this ⊢
    rw [e] at this ⊢
    exact this

theorem RVs.single {v : V} {u : Value} (h : RV μ w v u) : RVs μ w [v] [u] :=
  ⟨rfl, fun i hi => by
    simp only [List.length_cons, List.length_nil] at hi
    obtain rfl : i = 0 := by omega
    simpa using h⟩

theorem RV.mkAgg {cs : List V} {us : List Value} (h : RVs μ w cs us) (h1 : ∀ u ∈ us, u.oneCell' = true) : RV μ w (.agg cs) (.agg us.toArray) :=
  .agg cs us h.1 h1 h.2

theorem RV.ofAgg {cs : List V} {u : Value} (h : RV μ w (.agg cs) u) : ∃ us : List Value, u = .agg us.toArray ∧ RVs μ w cs us ∧ ∀ x ∈ us, x.oneCell' = true := by
  cases h with
  | agg cs us h1 h2 h3 => exact ⟨us, rfl, ⟨h1, h3⟩, h2⟩

theorem RV.ofTup {cs : List V} {u : Value} (h : RV μ w (.tup cs) u) : ∃ us : List Value, u = .tuple us.toArray ∧ RVs μ w cs us := by
  cases h with
  | tup cs us h1 h2 => exact ⟨us, rfl, ⟨h1, h2⟩⟩

theorem RV.mkTup {cs : List V} {us : List Value} (h : RVs μ w cs us) : RV μ w (.tup cs) (.tuple us.toArray) := .tup cs us h.1 h.2

theorem rangeAt_drop {w : World} {b o : Nat} {us : List Value} (h : w.rangeAt b o us) (k : Nat) : w.rangeAt b (o + k) (us.drop k) := fun j v hv => by
  have := h (k + j) v (by simpa [List.getElem?_drop] using hv)
  rw [Nat.add_assoc]
  exact this

theorem rangeAt_take {w : World} {b o : Nat} {us : List Value} (h : w.rangeAt b o us) (k : Nat) : w.rangeAt b o (us.take k) := fun j v hv => by
  refine h j v ?_
  rw [List.getElem?_take] at hv
  split at hv
  · exact hv
  · cases hv

/-! ### Fields -/
theorem drop_get {cs : List V} {off : Nat} {v : V} {r : List V} (h : cs.drop off = v :: r) : cs[off]? = some v := by
  have := congrArg (·[0]?) h
  simpa [List.getElem?_drop] using this

theorem snd_fldL {t : TypeId} {f : Nat} {fs : Array Field} {fd : Field} {d : TypeDesc} {i : TypeInfo} {x : Value} {a : V} (hu : P.underlying t = some (.struct fs)) (hf : fs[f]? = some fd) (hi : P.info? fd.type = some i)
    (hd : P.underlying fd.type = some d) (ha : isAggD d = false) (hx : RV μ w a x) (hrel : Rel μ σ w)
    (h : match (generalizing := false) a with | .agg cs => (match cs.drop fd.offset with | v :: _ => K v σ | [] => False) | _ => False) :
    Snd μ w ((do pure (Next.value (← Instr.field t x f)) : Sem Next).run P w) K := by
  split at h
  · rename_i cs
    obtain ⟨us, rfl, hr, _⟩ := hx.ofAgg
    split at h
    · rename_i v r hv
      obtain ⟨u, hu', hvu⟩ := hr.get (drop_get hv)
      refine Snd.val (u := u) ?_ hrel hvu h
      simp [Instr.field, underlying_run hu, hf, asAgg, part, isAgg_run hd, ha, hu']
    · exact h.elim
  · exact h.elim

theorem snd_fldA {t : TypeId} {f : Nat} {fs : Array Field} {fd : Field} {d : TypeDesc} {i : TypeInfo} {x : Value} {a : V} (hu : P.underlying t = some (.struct fs)) (hf : fs[f]? = some fd) (hi : P.info? fd.type = some i)
    (hd : P.underlying fd.type = some d) (ha : isAggD d = true) (hx : RV μ w a x) (hrel : Rel μ σ w)
    (h : match (generalizing := false) a with | .agg cs => K (.agg ((cs.drop fd.offset).take i.size)) σ | _ => False) :
    Snd μ w ((do pure (Next.value (← Instr.field t x f)) : Sem Next).run P w) K := by
  split at h
  · rename_i cs
    obtain ⟨us, rfl, hr, h1⟩ := hx.ofAgg
    refine Snd.val (u := .agg ((us.drop fd.offset).take i.size).toArray) ?_ hrel (RV.mkAgg ((hr.drop _).take _) fun u hu => h1 u (List.mem_of_mem_drop (List.mem_of_mem_take hu))) h
    simp [Instr.field, underlying_run hu, hf, asAgg, part, isAgg_run hd, ha, sizeOf_run hi, List.extract_eq_take_drop]
  · exact h.elim

/-! ### Small ones -/
theorem snd_tas {t xt : TypeId} {d : TypeDesc} {x : Value} {a : V} (hu : P.underlying t = some d) (hd : ∀ ms, d ≠ .interface ms) (hx : RV μ w a x) (hrel : Rel μ σ w)
    (h : match (generalizing := false) a with | .iface t' v => t' = t ∧ K v σ | _ => False) : Snd μ w ((do pure (Next.value (← Instr.typeAssert x xt t false)) : Sem Next).run P w) K := by
  split at h
  · rename_i t' v
    obtain ⟨rfl, h⟩ := h
    cases hx with
    | iface t v u hv =>
      refine Snd.val (u := u) ?_ hrel hv h
      cases d <;> simp [Instr.typeAssert, underlying_run hu]
      rename_i ms; exact absurd rfl (hd ms)
  · exact h.elim

theorem snd_tasOk {t xt : TypeId} {d : TypeDesc} {i : TypeInfo} {z : Value} {zv : V} {x : Value} {a : V} (hu : P.underlying t = some d) (hd : ∀ ms, d ≠ .interface ms) (hi : P.info? t = some i) (hz : i.zero = some z)
    (hzv : cval z = some zv) (hx : RV μ w a x) (hrel : Rel μ σ w)
    (h : match (generalizing := false) a with | .iface t' v => (if t' = t then K (.tup [v, .bool true]) σ else K (.tup [zv, .bool false]) σ) | .nilI => K (.tup [zv, .bool false]) σ | _ => False) :
    Snd μ w ((do pure (Next.value (← Instr.typeAssert x xt t true)) : Sem Next).run P w) K := by
  have hzr : RV μ w zv z := cval_sound hzv
  have pr : ∀ {v : V} {u : Value} (b : Bool), RV μ w v u → RV μ w (.tup [v, .bool b]) (.tuple #[u, .bool b]) := fun b hv =>
    RV.mkTup (us := [_, _]) (RVs.append (RVs.single hv) (RVs.single (.bool b)))
  split at h
  · rename_i t' v
    cases hx with
    | iface _ v u hv =>
      by_cases e : t' = t
      · rw [if_pos e] at h
        refine Snd.val (u := .tuple #[u, .bool true]) ?_ hrel (pr true hv) h
        cases d <;> simp [Instr.typeAssert, underlying_run hu, e]
        rename_i ms; exact absurd rfl (hd ms)
      · rw [if_neg e] at h
        refine Snd.val (u := .tuple #[z, .bool false]) ?_ hrel (pr false hzr) h
        cases d <;> simp [Instr.typeAssert, underlying_run hu, e, zeroValue_run hi hz]
        rename_i ms; exact absurd rfl (hd ms)
  · skip
    cases hx
    refine Snd.val (u := .tuple #[z, .bool false]) ?_ hrel (pr false hzr) h
    cases d <;> simp [Instr.typeAssert, underlying_run hu, zeroValue_run hi hz]
  · exact h.elim

theorem snd_ext {i : Nat} {x : Value} {a : V} (hx : RV μ w a x) (hrel : Rel μ σ w)
    (h : match (generalizing := false) a with | .tup vs => (match vs[i]? with | some v => K v σ | none => False) | _ => False) :
    Snd μ w ((do pure (Next.value (← Instr.extract x i)) : Sem Next).run P w) K := by
  split at h
  · rename_i vs
    obtain ⟨us, rfl, hr⟩ := hx.ofTup
    split at h
    · rename_i v hv
      obtain ⟨u, hu, hvu⟩ := hr.get hv
      exact Snd.val (u := u) (by simp [Instr.extract, hu]) hrel hvu h
    · exact h.elim
  · exact h.elim

theorem snd_lenS {t ty : TypeId} {x : Value} {a : V} (hu : P.underlying t = some .string) (hx : RV μ w a x) (hrel : Rel μ σ w) (h : match (generalizing := false) a with | .str s => K (.int .i64 s.length) σ | _ => False) :
    Snd μ w ((do pure (Next.value (← Builtin.len_ #[t] ty #[x])) : Sem Next).run P w) K := by
  split at h
  · rename_i s
    obtain ⟨b, rfl, hb⟩ := hx.ofStr
    have hsz : b.size = s.length := by rw [size_eq_length, hb]
    exact Snd.val (u := .int .i64 s.length) (by simp [Builtin.len_, underlying_run hu, goInt, hsz]) hrel (.int _ _) h
  · exact h.elim

theorem snd_lenV {t ty e : TypeId} {x : Value} {a : V} (hu : P.underlying t = some (.slice e)) (hx : RV μ w a x) (hrel : Rel μ σ w)
    (h : match (generalizing := false) a with | .slc _ xs _ => K (.int .i64 xs.length) σ | _ => False) :
    Snd μ w ((do pure (Next.value (← Builtin.len_ #[t] ty #[x])) : Sem Next).run P w) K := by
  split at h
  · rename_i nn xs tk
    cases hx
    · exact Snd.val (u := .int .i64 0) (by simp [Builtin.len_, underlying_run hu, goInt]) hrel (.int _ _) h
    · exact Snd.val (u := .int .i64 0) (by simp [Builtin.len_, underlying_run hu, goInt]) hrel (.int _ _) h
    · exact Snd.val (u := .int .i64 xs.length) (by simp [Builtin.len_, underlying_run hu, goInt]) hrel (.int _ _) h
  · exact h.elim

theorem snd_lenA {t ty e : TypeId} {n : Nat} {x : Value} (hu : P.underlying t = some (.array n e)) (hrel : Rel μ σ w) (h : K (.int .i64 n) σ) :
    Snd μ w ((do pure (Next.value (← Builtin.len_ #[t] ty #[x])) : Sem Next).run P w) K :=
  Snd.val (u := .int .i64 n) (by cases x <;> simp [Builtin.len_, underlying_run hu, goInt]) hrel (.int _ _) h

theorem vmax2_sound {a b v : V} {x y : Value} (hx : RV μ w a x) (hy : RV μ w b y) (h : vmax2 a b = some v) : ∃ u, (Builtin.max2 x y).run P w = .ok u w ∧ RV μ w v u := by
  unfold vmax2 at h
  split at h
  · rename_i k a k' b
    split at h
    · rename_i e
      cases h
      rw [hx.ofInt, hy.ofInt]
      exact ⟨.int k (if a < b then b else a), by simp [Builtin.max2], .int _ _⟩
    · cases h
  · cases h

theorem vmin2_sound {a b v : V} {x y : Value} (hx : RV μ w a x) (hy : RV μ w b y) (h : vmin2 a b = some v) : ∃ u, (Builtin.min2 x y).run P w = .ok u w ∧ RV μ w v u := by
  unfold vmin2 at h
  split at h
  · rename_i k a k' b
    split at h
    · rename_i e
      cases h
      rw [hx.ofInt, hy.ofInt]
      exact ⟨.int k (if b < a then b else a), by simp [Builtin.min2], .int _ _⟩
    · cases h
  · cases h

theorem snd_mx {ts : Array TypeId} {ty : TypeId} {x y : Value} {a b : V} (hx : RV μ w a x) (hy : RV μ w b y) (hrel : Rel μ σ w) (h : match (generalizing := false) vmax2 a b with | some v => K v σ | none => False) :
    Snd μ w ((do pure (Next.value (← Builtin.max_ ts ty #[x, y])) : Sem Next).run P w) K := by
  split at h
  · rename_i v hv
    obtain ⟨u, hu, hvu⟩ := vmax2_sound (P := P) hx hy hv
    exact Snd.val (u := u) (by simp [Builtin.max_, hu]) hrel hvu h
  · exact h.elim

theorem snd_mn {ts : Array TypeId} {ty : TypeId} {x y : Value} {a b : V} (hx : RV μ w a x) (hy : RV μ w b y) (hrel : Rel μ σ w) (h : match (generalizing := false) vmin2 a b with | some v => K v σ | none => False) :
    Snd μ w ((do pure (Next.value (← Builtin.min_ ts ty #[x, y])) : Sem Next).run P w) K := by
  split at h
  · rename_i v hv
    obtain ⟨u, hu, hvu⟩ := vmin2_sound (P := P) hx hy hv
    exact Snd.val (u := u) (by simp [Builtin.min_, hu]) hrel hvu h
  · exact h.elim

theorem snd_idxS {t : TypeId} {x y : Value} {a b : V} (hu : P.underlying t = some .string) (hx : RV μ w a x) (hy : RV μ w b y) (hrel : Rel μ σ w)
    (h : match (generalizing := false) a, b with | .str s, .int _ n => (0 ≤ n ∧ n < s.length) ∧ K (.int .u8 ((s.getD n.toNat 0).toNat : Int)) σ | _, _ => False) :
    Snd μ w ((do pure (Next.value (← Instr.index t x y)) : Sem Next).run P w) K := by
  split at h
  · rename_i s k n
    obtain ⟨b, rfl, hb⟩ := hx.ofStr
    obtain ⟨⟨h1, h2⟩, h3⟩ := h
    rw [hy.ofInt]
    have hlt : n.toNat < b.size := by rw [size_eq_length, hb]; omega
    have hg : b[n.toNat]? = some (s.getD n.toNat 0) := by
      subst hb
      have hd : n.toNat < b.data.toList.length := by rw [← size_eq_length]; exact hlt
      rw [List.getD_eq_getElem?_getD, List.getElem?_eq_getElem hd]
      simp [getElem?_pos b n.toNat hlt]
      rfl
    refine Snd.val (u := .int .u8 ((s.getD n.toNat 0).toNat : Int)) ?_ hrel (.int _ _) h3
    simp [Instr.index, asIntOf, underlying_run hu, h1, hg]
  · exact h.elim

end
end Go.Vs

namespace Go.Vs
section
variable {P : Program} {m : Nat} {μ : Mem} {w : World} {fr : Fr} {ρ : Operand → Value} {σ : St} {K : V → St → Prop} {r : Result Next}

theorem gfind_mem {G : List (Nat × List V)} {g : Nat} {cs : List V} (h : gfind G g = some cs) : (g, cs) ∈ G := by
  unfold gfind at h
  simp only [Option.map_eq_some_iff] at h
  obtain ⟨⟨g', cs'⟩, h1, h2⟩ := h
  have h3 := List.find?_some h1
  simp only [beq_iff_eq] at h3 h2
  subst h3 h2
  exact List.mem_of_find?_eq_some h1

theorem vcells_sound {a : V} {u : Value} {cs : List V} (hrel : Rel μ σ w) (hx : RV μ w a u) (h : vcells μ.G σ a = some cs) :
    ∃ b off us, u = .pointer (some ⟨b, off, none⟩) ∧ RVs μ w cs us ∧ w.rangeAt b off us ∧ ∀ x ∈ us, x.oneCell' = true := by
  unfold vcells at h
  split at h
  · rename_i o off
    simp only [Option.map_eq_some_iff] at h
    obtain ⟨cs0, h0, rfl⟩ := h
    obtain ⟨_, _, _, us, h1, h2, _, h3⟩ := hrel.obj o cs0 h0
    cases hx with
    | ref o off ho =>
      refine ⟨_, _, us.drop off, rfl, h1.drop off, ?_, fun x hx => h3 x (List.mem_of_mem_drop hx)⟩
      have := rangeAt_drop h2 off
      rwa [Nat.zero_add] at this
  · rename_i g off
    simp only [Option.map_eq_some_iff] at h
    obtain ⟨cs0, h0, rfl⟩ := h
    obtain ⟨_, us, h1, h2, _, h3⟩ := hrel.glob g cs0 (gfind_mem h0)
    cases hx with
    | gref g off =>
      refine ⟨_, _, us.drop off, rfl, h1.drop off, ?_, fun x hx => h3 x (List.mem_of_mem_drop hx)⟩
      have := rangeAt_drop h2 off
      rwa [Nat.zero_add] at this
  · cases h
    cases hx with
    | eptr cs us b off h1 h2 h3 h4 h5 => exact ⟨b, off, us, rfl, ⟨h1, h5⟩, h2, h4⟩
  · cases h

theorem snd_loadL {t : TypeId} {d : TypeDesc} {x : Value} {a : V} (hu : P.underlying t = some d) (hd : isAggD d = false) (hx : RV μ w a x) (hrel : Rel μ σ w)
    (h : match (generalizing := false) vcells μ.G σ a with | some (v :: _) => K v σ | _ => False) : Snd μ w ((do pure (Next.value (← Instr.loadAt t x)) : Sem Next).run P w) K := by
  split at h
  · rename_i v r hv
    obtain ⟨b, off, us, rfl, h1, h2, _⟩ := vcells_sound hrel hx hv
    obtain ⟨u, hu', hvu⟩ := h1.get (i := 0) (v := v) rfl
    have hc := h2 0 u hu'
    refine Snd.val (u := u) ?_ hrel hvu h
    simp only [Nat.add_zero] at hc
    simp [Instr.loadAt, Instr.sureAddr, loadVar, isAgg_run hu, hd, hc]
  · exact h.elim

theorem snd_loadA {t : TypeId} {d : TypeDesc} {i : TypeInfo} {x : Value} {a : V} (hu : P.underlying t = some d) (hd : isAggD d = true) (hi : P.info? t = some i) (hx : RV μ w a x) (hrel : Rel μ σ w)
    (h : match (generalizing := false) vcells μ.G σ a with | some cs => i.size ≤ cs.length ∧ K (.agg (cs.take i.size)) σ | none => False) : Snd μ w ((do pure (Next.value (← Instr.loadAt t x)) : Sem Next).run P w) K := by
  split at h
  · rename_i cs hv
    obtain ⟨b, off, us, rfl, h1, h2, h3⟩ := vcells_sound hrel hx hv
    obtain ⟨hn, h⟩ := h
    have hlen : (us.take i.size).length = i.size := by rw [List.length_take, ← h1.1]; omega
    have hr : d.isRow = true := by cases d <;> simp_all [isAggD]
    have e := run_loadAt_mid (P := P) w b off t (us.take i.size) d (rangeAt_take h2 _) hu hr (by simp [hi, hlen])
    refine Snd.val (u := .agg (us.take i.size).toArray) (by simp [e]) hrel (RV.mkAgg (h1.take _) fun u hu => h3 u (List.mem_of_mem_take hu)) h
  · exact h.elim

theorem snd_nilck {x : Value} {a : V} (hx : RV μ w a x) (hrel : Rel μ σ w)
    (h : match (generalizing := false) a with | .ref (some a) => K (.ref (some a)) σ | .gref g off => K (.gref g off) σ | .eptr cs => K (.eptr cs) σ | _ => False)
    (hr : ∀ a, x = .pointer (some a) → r = .ok (.value x) w) : Snd μ w r K := by
  split at h
  · rename_i a
    cases hx with
    | ref o off ho => exact Snd.val (hr _ rfl) hrel (.ref o off ho) h
  · rename_i g off
    cases hx
    exact Snd.val (hr _ rfl) hrel (.gref g off) h
  · rename_i cs
    cases hx with
    | eptr cs us b off h1 h2 h3 h4 h5 => exact Snd.val (hr _ rfl) hrel (.eptr cs us b off h1 h2 h3 h4 h5) h
  · exact h.elim

theorem add_addr (b o n : Nat) : (⟨b, o, none⟩ : Addr).add n = ⟨b, o + n, none⟩ := Addr.add_mid b o n

theorem snd_fadr {s : TypeId} {f : Nat} {fs : Array Field} {fd : Field} {i : TypeInfo} {x : Value} {a : V} (hu : P.underlying s = some (.struct fs)) (hf : fs[f]? = some fd) (hi : P.info? fd.type = some i) (hz : i.size ≠ 0)
    (hx : RV μ w a x) (hrel : Rel μ σ w)
    (h : match (generalizing := false) a with
      | .ref (some (o, p)) => K (.ref (some (o, p + fd.offset))) σ
      | .gref g p => K (.gref g (p + fd.offset)) σ
      | .eptr cs => fd.offset ≤ cs.length ∧ K (.eptr (cs.drop fd.offset)) σ
      | _ => False) :
    Snd μ w ((do pure (Next.value (← Instr.fieldAt s x f)) : Sem Next).run P w) K := by
  have run : ∀ b o, x = .pointer (some ⟨b, o, none⟩) → ((do pure (Next.value (← Instr.fieldAt s x f)) : Sem Next).run P w) = .ok (.value (.pointer (some ⟨b, o + fd.offset, none⟩))) w := by
    rintro b o rfl
    simp [Instr.fieldAt, underlying_run hu, hf, Instr.sureAddr, fieldPlace, sizeOf_run hi, hz, add_addr]
  split at h
  · rename_i o a
    cases hx with
    | ref o off ho => exact Snd.val (run _ _ rfl) hrel (.ref o _ ho) h
  · rename_i g a
    cases hx
    exact Snd.val (run _ _ rfl) hrel (.gref g _) h
  · rename_i cs
    obtain ⟨hn, h⟩ := h
    cases hx with
    | eptr cs us b off h1 h2 h3 h4 h5 =>
      have hd := RVs.drop (μ := μ) (w := w) ⟨h1, h5⟩ fd.offset
      exact Snd.val (run _ _ rfl) hrel (.eptr _ (us.drop fd.offset) b _ hd.1 (rangeAt_drop h2 _) (by simp only [List.length_drop]; omega) (fun u hu => h4 u (List.mem_of_mem_drop hu)) hd.2) h
  · exact h.elim

/-- One element of a slice, as a row of cells. -/
theorem elem_at {xs : List V} {b off sz : Nat} {us : List Value} (h2 : us.length = xs.length * sz) (h3 : w.rangeAt b off us) (h4 : off + us.length ≤ μ.pr b) (h5 : ∀ u ∈ us, u.oneCell' = true)
    (h1 : ∀ x ∈ xs, x.cells.length = sz)
    (h6 : ∀ i, i < xs.length → ∀ j, j < sz → RV μ w ((xs.getD i .und).cells.getD j .und) (us.getD (i * sz + j) undef)) {n : Nat} (hn : n < xs.length) :
    RV μ w (.eptr (xs.getD n .und).cells) (.pointer (some ⟨b, off + n * sz, none⟩)) ∧ RVs μ w (xs.getD n .und).cells ((us.drop (n * sz)).take sz) := by
  have hm : xs.getD n .und ∈ xs := by
    rw [List.getD_eq_getElem?_getD, List.getElem?_eq_getElem hn]
    exact List.getElem_mem hn
  have hl := h1 _ hm
  have hmul : n * sz + sz ≤ us.length := by
    rw [h2]
    have : (n + 1) * sz ≤ xs.length * sz := Nat.mul_le_mul_right sz hn
    rwa [Nat.succ_mul] at this
  have hlen : ((us.drop (n * sz)).take sz).length = sz := by
    simp only [List.length_take, List.length_drop]; omega
  have hr : RVs μ w (xs.getD n .und).cells ((us.drop (n * sz)).take sz) := by
    refine ⟨by rw [hl, hlen], fun j hj => ?_⟩
    have hj' : j < sz := by rw [← hl]; exact hj
    have := h6 n hn j hj'
    have e : ((us.drop (n * sz)).take sz).getD j undef = us.getD (n * sz + j) undef := by
      simp only [List.getD_eq_getElem?_getD, List.getElem?_take, hj', if_true, List.getElem?_drop]
    rw [e]
    exact this
  refine ⟨.eptr _ _ b _ hr.1 (rangeAt_take (rangeAt_drop h3 _) _) (by rw [hlen]; omega) (fun u hu => h5 u (List.mem_of_mem_drop (List.mem_of_mem_take hu))) hr.2, hr⟩

theorem snd_iadV {t e : TypeId} {ei : TypeInfo} {x y : Value} {a b : V} (hu : P.underlying t = some (.slice e)) (hi : P.info? e = some ei) (hx : RV μ w a x) (hy : RV μ w b y) (hrel : Rel μ σ w)
    (h : match (generalizing := false) a, b with | .slc _ xs _, .int _ n => (0 ≤ n ∧ n < xs.length) ∧ (∀ y ∈ xs, y.cells.length = ei.size) ∧ K (.eptr (xs.getD n.toNat .und).cells) σ | _, _ => False) :
    Snd μ w ((do pure (Next.value (← Instr.indexAt t x y)) : Sem Next).run P w) K := by
  split at h
  · rename_i nn xs tk k n
    obtain ⟨⟨h1, h2⟩, h3, h4⟩ := h
    rw [hy.ofInt]
    cases hx with
    | nils => simp at h2; omega
    | slc0 => simp at h2; omega
    | slc xs tk b off cap sz us k1 k2 k3 k4 k5 k6 k7 k8 =>
      have hn : n.toNat < xs.length := by omega
      have hsz : sz = ei.size := by
        have hm : xs.getD n.toNat .und ∈ xs := by
          rw [List.getD_eq_getElem?_getD, List.getElem?_eq_getElem hn]
          exact List.getElem_mem hn
        rw [← k1 _ hm, h3 _ hm]
      obtain ⟨he, _⟩ := elem_at k2 k3 k4 k5 k1 k6 hn
      refine Snd.val (u := _) ?_ hrel he h4
      simp [Instr.indexAt, asIntOf, underlying_run hu, h1, h2, sizeOf_run hi, add_addr, hsz]
  · exact h.elim

theorem snd_iadA {t e : TypeId} {len : Nat} {ei : TypeInfo} {x y : Value} {a b : V} (hu : P.underlying t = some (.array len e)) (hi : P.info? e = some ei) (hx : RV μ w a x) (hy : RV μ w b y) (hrel : Rel μ σ w)
    (h : match (generalizing := false) a, b with
      | .ref (some (o, p)), .int _ n => (0 ≤ n ∧ n < len) ∧ K (.ref (some (o, p + n.toNat * ei.size))) σ
      | .gref g p, .int _ n => (0 ≤ n ∧ n < len) ∧ K (.gref g (p + n.toNat * ei.size)) σ
      | .eptr cs, .int _ n => (0 ≤ n ∧ n < len) ∧ n.toNat * ei.size ≤ cs.length ∧ K (.eptr (cs.drop (n.toNat * ei.size))) σ
      | _, _ => False) :
    Snd μ w ((do pure (Next.value (← Instr.indexAt t x y)) : Sem Next).run P w) K := by
  have run : ∀ b o k (n : Int), x = .pointer (some ⟨b, o, none⟩) → y = .int k n → 0 ≤ n → n < len →
      ((do pure (Next.value (← Instr.indexAt t x y)) : Sem Next).run P w) = .ok (.value (.pointer (some ⟨b, o + n.toNat * ei.size, none⟩))) w := by
    rintro b o k n rfl rfl h1 h2
    simp [Instr.indexAt, asIntOf, underlying_run hu, Instr.sureAddr, h1, h2, sizeOf_run hi, add_addr]
  split at h
  · rename_i o a k n
    obtain ⟨⟨h1, h2⟩, h⟩ := h
    cases hx with
    | ref o off ho => exact Snd.val (run _ _ _ _ rfl hy.ofInt h1 h2) hrel (.ref o _ ho) h
  · rename_i g a k n
    obtain ⟨⟨h1, h2⟩, h⟩ := h
    cases hx
    exact Snd.val (run _ _ _ _ rfl hy.ofInt h1 h2) hrel (.gref g _) h
  · rename_i cs k n
    obtain ⟨⟨h1, h2⟩, hn, h⟩ := h
    cases hx with
    | eptr cs us b off k1 k2 k3 k4 k5 =>
      have hd := RVs.drop (μ := μ) (w := w) ⟨k1, k5⟩ (n.toNat * ei.size)
      exact Snd.val (run _ _ _ _ rfl hy.ofInt h1 h2) hrel (.eptr _ (us.drop (n.toNat * ei.size)) b _ hd.1 (rangeAt_drop k2 _) (by simp only [List.length_drop]; omega) (fun u hu => k4 u (List.mem_of_mem_drop hu)) hd.2) h
  · exact h.elim

theorem snd_idxL {t e : TypeId} {len : Nat} {ei : TypeInfo} {d : TypeDesc} {x y : Value} {a b : V} (hu : P.underlying t = some (.array len e)) (hi : P.info? e = some ei) (h1 : ei.size = 1) (hd : P.underlying e = some d) (ha : isAggD d = false)
    (hx : RV μ w a x) (hy : RV μ w b y) (hrel : Rel μ σ w)
    (h : match (generalizing := false) a, b with | .agg cs, .int _ n => (0 ≤ n ∧ n < len ∧ n < cs.length) ∧ K (cs.getD n.toNat .und) σ | _, _ => False) :
    Snd μ w ((do pure (Next.value (← Instr.index t x y)) : Sem Next).run P w) K := by
  split at h
  · rename_i cs k n
    obtain ⟨⟨h2, h3, h4⟩, h⟩ := h
    obtain ⟨us, rfl, hr, _⟩ := hx.ofAgg
    rw [hy.ofInt]
    have hn : n.toNat < cs.length := by omega
    have hn' : n.toNat < us.length := by rw [← hr.1]; exact hn
    refine Snd.val (u := us.getD n.toNat undef) ?_ hrel (hr.2 _ hn) h
    simp [Instr.index, asIntOf, underlying_run hu, h2, h3, sizeOf_run hi, h1, part, isAgg_run hd, ha, hn', List.getElem?_eq_getElem hn']
  · exact h.elim

theorem snd_idxA {t e : TypeId} {len : Nat} {ei : TypeInfo} {d : TypeDesc} {x y : Value} {a b : V} (hu : P.underlying t = some (.array len e)) (hi : P.info? e = some ei) (hd : P.underlying e = some d) (ha : isAggD d = true)
    (hx : RV μ w a x) (hy : RV μ w b y) (hrel : Rel μ σ w)
    (h : match (generalizing := false) a, b with | .agg cs, .int _ n => (0 ≤ n ∧ n < len) ∧ K (.agg ((cs.drop (n.toNat * ei.size)).take ei.size)) σ | _, _ => False) :
    Snd μ w ((do pure (Next.value (← Instr.index t x y)) : Sem Next).run P w) K := by
  split at h
  · rename_i cs k n
    obtain ⟨⟨h2, h3⟩, h⟩ := h
    obtain ⟨us, rfl, hr, h4⟩ := hx.ofAgg
    rw [hy.ofInt]
    refine Snd.val (u := .agg ((us.drop (n.toNat * ei.size)).take ei.size).toArray) ?_ hrel (RV.mkAgg ((hr.drop _).take _) fun u hu => h4 u (List.mem_of_mem_drop (List.mem_of_mem_take hu))) h
    simp [Instr.index, asIntOf, underlying_run hu, h2, h3, sizeOf_run hi, part, isAgg_run hd, ha, List.extract_eq_take_drop]
  · exact h.elim

end
end Go.Vs

namespace Go.Vs

def Mem.prot (μ : Mem) (b k : Nat) : Mem := { μ with pr := fun x => if x = b then k else μ.pr x }
def Mem.addO (μ : Mem) (b : Nat) : Mem := { μ with n := μ.n + 1, ob := fun o => if o = μ.n then b else μ.ob o }
def Mem.addM (μ : Mem) (b : Nat) : Mem := { μ with nm := μ.nm + 1, mb := fun o => if o = μ.nm then b else μ.mb o }
def Mem.addT (μ : Mem) (e : TypeId) (t : Nat × Nat × Nat) (len : Nat) : Mem := { μ with tl := μ.tl ++ [len], tk := fun i => if i = μ.tl.length then t else μ.tk i, tt := fun i => if i = μ.tl.length then e else μ.tt i }

section
variable {P : Program} {m : Nat} {μ : Mem} {w : World} {fr : Fr} {ρ : Operand → Value} {σ : St} {K : V → St → Prop} {r : Result Next}

theorem cell_of_heap {w w' : World} {b : Nat} (h : w'.heap[b]? = w.heap[b]?) (j : Nat) : w'.cell? ⟨b, j, none⟩ = w.cell? ⟨b, j, none⟩ := by
  simp only [World.cell?, h]
theorem frozen_of_heap {w w' : World} {b : Nat} (h : w'.heap[b]? = w.heap[b]?) (j : Nat) : w'.frozen? ⟨b, j, none⟩ = w.frozen? ⟨b, j, none⟩ := by
  simp only [World.frozen?, h]
theorem block_of_cell {w : World} {b j : Nat} (h : (w.cell? ⟨b, j, none⟩).isSome = true) : b < w.heap.size := by
  obtain ⟨v, hv⟩ := Option.isSome_iff_exists.1 h
  exact World.block_lt_of_cell? w _ hv
theorem range_of_heap {w w' : World} {b o : Nat} {us : List Value} (h : w'.heap[b]? = w.heap[b]?) (hr : w.rangeAt b o us) : w'.rangeAt b o us := fun j v hv => by
  rw [cell_of_heap h]; exact hr j v hv
theorem heap_alloc_lt (w : World) (o : Obj) {b : Nat} (h : b < w.heap.size) : (w.alloc o).heap[b]? = w.heap[b]? := by
  show (w.heap.push o)[b]? = _
  rw [Array.getElem?_push, if_neg (by omega)]

theorem Rel.ob_lt (h : Rel μ σ w) {o : Nat} (ho : o < μ.n) : μ.ob o < w.heap.size := by
  rw [h.n] at ho
  exact (h.obj o _ (List.getElem?_eq_getElem ho)).2.1

theorem Rel.mb_lt (h : Rel μ σ w) {r : Nat} (hr : r < μ.nm) : μ.mb r < w.heap.size := by
  rw [h.nm] at hr
  obtain ⟨_, cl, us, h2, _⟩ := h.map r _ (List.getElem?_eq_getElem hr)
  rcases Nat.lt_or_ge (μ.mb r) w.heap.size with h | h
  · exact h
  · rw [Array.getElem?_eq_none h] at h2; cases h2

/-- Memory that has only grown, and is marked otherwise in new blocks alone. -/
theorem Rel.grow {μ' : Mem} {w' : World} (h : Rel μ σ w) (he : Ev μ w μ' w') (hheap : ∀ b, b < w.heap.size → w'.heap[b]? = w.heap[b]?) (hn : μ'.n = μ.n) (hnm : μ'.nm = μ.nm) (htl : μ'.tl = μ.tl)
    (htk : ∀ t, t < μ.tl.length → μ'.tk t = μ.tk t) (hpr : ∀ b, b < w.heap.size → μ'.pr b = μ.pr b) (hpast : ∀ b, w'.heap.size ≤ b → μ'.pr b = 0) : Rel μ' σ w' where
  n := hn.trans h.n
  nm := hnm.trans h.nm
  tl := htl.trans h.tl
  base := by rw [he.base]; exact Nat.le_trans h.base he.size
  past := hpast
  glob g cs hg := by
    rw [he.G] at hg
    obtain ⟨h1, us, h2, h3, h4, h5⟩ := h.glob g cs hg
    have hb : g < w.heap.size := Nat.lt_of_lt_of_le h1 h.base
    exact ⟨by rw [he.base]; exact h1, us, h2.mono he, range_of_heap (hheap g hb) h3, by rw [hpr g hb]; exact h4, h5⟩
  obj o cs ho := by
    obtain ⟨h1, h2, h3, us, h4, h5, h6, h7⟩ := h.obj o cs ho
    have hlt : o < μ.n := by rw [h.n]; exact (List.getElem?_eq_some_iff.1 ho).1
    rw [he.ob o hlt]
    exact ⟨by rw [he.base]; exact h1, Nat.lt_of_lt_of_le h2 he.size, by rw [hpr _ h2]; exact h3, us, h4.mono he, range_of_heap (hheap _ h2) h5, fun j => by rw [frozen_of_heap (hheap _ h2)]; exact h6 j, h7⟩
  inj o o' ho ho' e := by
    rw [hn] at ho ho'
    rw [he.ob o ho, he.ob o' ho'] at e
    exact h.inj o o' ho ho' e
  map r es hr := by
    obtain ⟨h1, cl, us, h2, h3, h4⟩ := h.map r es hr
    have hlt : r < μ.nm := by rw [h.nm]; exact (List.getElem?_eq_some_iff.1 hr).1
    have hb : μ.mb r < w.heap.size := by
      rcases Nat.lt_or_ge (μ.mb r) w.heap.size with h | h
      · exact h
      · rw [Array.getElem?_eq_none h] at h2; cases h2
    rw [he.mb r hlt]
    exact ⟨by rw [he.base]; exact h1, cl, us, by rw [hheap _ hb]; exact h2, h3, fun j k v e hj hu => ⟨(h4 j k v e hj hu).1.mono he, (h4 j k v e hj hu).2.mono he⟩⟩
  minj r r' hr hr' e := by
    rw [hnm] at hr hr'
    rw [he.mb r hr, he.mb r' hr'] at e
    exact h.minj r r' hr hr' e
  tok t ht := by
    rw [htl] at ht
    obtain ⟨h1, h2, h3, h4⟩ := h.tok t ht
    rw [htk t ht, htl]
    refine ⟨by rw [he.base]; exact h1, Nat.lt_of_lt_of_le h2 he.size, by rw [hpr _ h2]; exact h3, fun o ho => ?_⟩
    rw [hn] at ho
    rw [he.ob o ho]
    exact h4 o ho
  tinj t t' ht ht' e := by
    rw [htl] at ht ht'
    rw [htk t ht, htk t' ht'] at e
    exact h.tinj t t' ht ht' e
  mo r o hr ho := by
    rw [hnm] at hr
    rw [hn] at ho
    rw [he.mb r hr, he.ob o ho]
    exact h.mo r o hr ho
  mt r t hr ht := by
    rw [hnm] at hr
    rw [htl] at ht
    rw [he.mb r hr, htk t ht]
    exact h.mt r t hr ht
  tys := h.tys
  ty o e ho := by
    rw [he.ob o (by rw [h.n, ← h.tys]; exact (List.getElem?_eq_some_iff.1 ho).1)]
    exact (h.ty o e ho).mono he
  tts := h.tts
  tt i e hi := by
    rw [he.tt i (by rw [h.tl, ← h.tts]; exact (List.getElem?_eq_some_iff.1 hi).1)]
    exact h.tt i e hi

/-- One more block. -/
theorem Ev.alloc (h : Rel μ σ w) (o : Obj) (k : Nat) : Ev μ w (μ.prot w.heap.size k) (w.alloc o) where
  base := rfl
  G := rfl
  size := by rw [show (w.alloc o).heap.size = w.heap.size + 1 from Array.size_push ..]; omega
  old b hb := heap_alloc_lt w o (Nat.lt_of_lt_of_le hb h.base)
  cell b j hj := by
    rcases Nat.lt_or_ge b w.heap.size with hb | hb
    · exact cell_of_heap (heap_alloc_lt w o hb) j
    · rw [h.past b hb] at hj; omega
  pr b := by
    simp only [Mem.prot]
    split
    · rename_i e; subst e; rw [h.past _ (Nat.le_refl _)]; exact Nat.zero_le _
    · exact Nat.le_refl _
  there b j hj := by
    rw [cell_of_heap (heap_alloc_lt w o (block_of_cell hj))]; exact hj
  n := Nat.le_refl _
  ob _ _ := rfl
  nm := Nat.le_refl _
  mb _ _ := rfl
  tl := Nat.le_refl _
  tk t ht := ⟨Nat.le_refl _, fun _ => ⟨rfl, by
    simp only [Mem.prot]
    rw [if_neg (by have := (h.tok t ht).2.1; omega)]⟩⟩
  os := rfl
  tape := rfl
  output := rfl
  shape b c e f hc := by
    have hb : b < w.heap.size := (Array.getElem?_eq_some_iff.1 hc).1
    exact ⟨c, f, by rw [heap_alloc_lt w o hb]; exact hc, fun _ _ h => h⟩
  tt _ _ := rfl

theorem Rel.alloc (h : Rel μ σ w) (o : Obj) (k : Nat) : Rel (μ.prot w.heap.size k) σ (w.alloc o) :=
  h.grow (Ev.alloc h o k) (fun b hb => heap_alloc_lt w o hb) rfl rfl rfl (fun _ _ => rfl) (fun b hb => by simp only [Mem.prot]; rw [if_neg (by omega)])
    (fun b hb => by
      rw [show (w.alloc o).heap.size = w.heap.size + 1 from Array.size_push ..] at hb
      simp only [Mem.prot]
      rw [if_neg (by omega)]
      exact h.past b (by omega))

/-- A draw. -/
theorem Ev.drew (μ : Mem) (w : World) : Ev μ w μ w.drew :=
  ⟨rfl, rfl, Nat.le_refl _, fun _ _ => rfl, fun _ _ _ => rfl, fun _ => Nat.le_refl _, fun _ _ h => h, Nat.le_refl _, fun _ _ => rfl,
    Nat.le_refl _, fun _ _ => rfl, Nat.le_refl _, fun _ _ => ⟨Nat.le_refl _, fun _ => ⟨rfl, rfl⟩⟩, rfl, rfl, rfl, fun _ c _ f h => ⟨c, f, h, fun _ _ h => h⟩, fun _ _ => rfl⟩

theorem Rel.drew (h : Rel μ σ w) : Rel μ σ w.drew :=
  h.grow (Ev.drew μ w) (fun _ _ => rfl) rfl rfl rfl (fun _ _ => rfl) (fun _ _ => rfl) h.past

/-- One more object. -/
theorem Ev.addO (μ : Mem) (w : World) (b : Nat) : Ev μ w (μ.addO b) w :=
  ⟨rfl, rfl, Nat.le_refl _, fun _ _ => rfl, fun _ _ _ => rfl, fun _ => Nat.le_refl _, fun _ _ h => h, Nat.le_succ _,
    fun o ho => by simp only [Mem.addO]; rw [if_neg (by omega)], Nat.le_refl _, fun _ _ => rfl, Nat.le_refl _, fun _ _ => ⟨Nat.le_refl _, fun _ => ⟨rfl, rfl⟩⟩, rfl, rfl, rfl, fun _ c _ f h => ⟨c, f, h, fun _ _ h => h⟩, fun _ _ => rfl⟩

theorem Rel.addO (h : Rel μ σ w) {b : Nat} {cs : List V} {us : List Value} (hb : μ.base ≤ b) (hlt : b < w.heap.size) (hp : μ.pr b = 0) (hr : RVs μ w cs us) (hat : w.rangeAt b 0 us)
    (hf : ∀ j, w.frozen? ⟨b, j, none⟩ = false) (h1 : ∀ u ∈ us, u.oneCell' = true) (ho : ∀ o, o < μ.n → μ.ob o ≠ b) (ht : ∀ t, t < μ.tl.length → (μ.tk t).1 ≠ b) (hm : ∀ r, r < μ.nm → μ.mb r ≠ b) {e : TypeId} (hty : tagAt w b e) :
    Rel (μ.addO b) { σ with objs := σ.objs ++ [cs], tys := σ.tys ++ [e] } w where
  n := by simp [Mem.addO, h.n]
  nm := h.nm
  tl := h.tl
  base := h.base
  past := h.past
  glob g cs hg := by
    obtain ⟨k1, us, k2, k3⟩ := h.glob g cs hg
    exact ⟨k1, us, k2.mono (Ev.addO μ w b), k3⟩
  obj o cs' ho' := by
    simp only [Mem.addO]
    by_cases e : o = μ.n
    · subst e
      rw [if_pos rfl]
      rw [h.n] at ho'
      simp only [List.getElem?_append_right (Nat.le_refl _), Nat.sub_self, List.getElem?_cons_zero, Option.some.injEq] at ho'
      subst ho'
      exact ⟨hb, hlt, hp, us, hr.mono (Ev.addO μ w b), hat, hf, h1⟩
    · rw [if_neg e]
      have hlt' : o < σ.objs.length := by
        have := (List.getElem?_eq_some_iff.1 ho').1
        simp only [List.length_append, List.length_cons, List.length_nil] at this
        rw [h.n] at e
        omega
      rw [List.getElem?_append_left hlt'] at ho'
      obtain ⟨k1, k2, k3, us, k4, k5⟩ := h.obj o cs' ho'
      exact ⟨k1, k2, k3, us, k4.mono (Ev.addO μ w b), k5⟩
  inj o o' ho1 ho2 e := by
    simp only [Mem.addO] at ho1 ho2 e
    split at e <;> split at e
    · omega
    · exact absurd e.symm (ho o' (by omega))
    · exact absurd e (ho o (by omega))
    · exact h.inj o o' (by omega) (by omega) e
  map r es hr := by
    obtain ⟨k1, cl, us, k2, k3, k4⟩ := h.map r es hr
    exact ⟨k1, cl, us, k2, k3, fun j k v e hj hu => ⟨(k4 j k v e hj hu).1.mono (Ev.addO μ w b), (k4 j k v e hj hu).2.mono (Ev.addO μ w b)⟩⟩
  minj := h.minj
  tok t ht' := by
    obtain ⟨k1, k2, k3, k4⟩ := h.tok t ht'
    refine ⟨k1, k2, k3, fun o ho' => ?_⟩
    simp only [Mem.addO] at ho' ⊢
    split
    · exact fun e => ht t ht' e.symm
    · exact k4 o (by omega)
  tinj := h.tinj
  mo r o hr ho' := by
    simp only [Mem.addO] at ho' ⊢
    split
    · exact hm r hr
    · exact h.mo r o hr (by omega)
  mt := h.mt
  tys := by simp [h.tys]
  ty o e' ho' := by
    simp only [Mem.addO]
    by_cases e0 : o = μ.n
    · subst e0
      rw [if_pos rfl]
      rw [h.n, ← h.tys] at ho'
      simp only [List.getElem?_append_right (Nat.le_refl _), Nat.sub_self, List.getElem?_cons_zero, Option.some.injEq] at ho'
      subst ho'
      exact hty
    · rw [if_neg e0]
      have hlt' : o < σ.tys.length := by
        have := (List.getElem?_eq_some_iff.1 ho').1
        simp only [List.length_append, List.length_cons, List.length_nil] at this
        rw [h.n, ← h.tys] at e0
        omega
      rw [List.getElem?_append_left hlt'] at ho'
      exact h.ty o e' ho'
  tts := h.tts
  tt := h.tt

/-- One more owned row. -/
theorem Ev.addT (μ : Mem) (w : World) (e : TypeId) (t : Nat × Nat × Nat) (len : Nat) : Ev μ w (μ.addT e t len) w where
  base := rfl
  G := rfl
  size := Nat.le_refl _
  old _ _ := rfl
  cell _ _ _ := rfl
  pr _ := Nat.le_refl _
  there _ _ h := h
  n := Nat.le_refl _
  ob _ _ := rfl
  nm := Nat.le_refl _
  mb _ _ := rfl
  tl := by simp [Mem.addT]
  tk i hi := by
    have : (μ.addT e t len).tl.getD i 0 = μ.tl.getD i 0 := by
      simp only [Mem.addT, List.getD_eq_getElem?_getD, List.getElem?_append_left hi]
    rw [this]
    refine ⟨Nat.le_refl _, fun _ => ⟨?_, rfl⟩⟩
    simp only [Mem.addT]
    rw [if_neg (by omega)]
  os := rfl
  tape := rfl
  output := rfl
  shape _ c _ f h := ⟨c, f, h, fun _ _ h => h⟩
  tt i hi := by simp only [Mem.addT]; rw [if_neg (by omega)]

theorem Rel.addT (h : Rel μ σ w) {b off sz len : Nat} (hb : μ.base ≤ b) (hlt : b < w.heap.size) (hp : μ.pr b = off + len * sz) (ho : ∀ o, o < μ.n → μ.ob o ≠ b) (ht : ∀ t, t < μ.tl.length → (μ.tk t).1 ≠ b) (hm : ∀ r, r < μ.nm → μ.mb r ≠ b) (e : TypeId) :
    Rel (μ.addT e (b, off, sz) len) { σ with toks := σ.toks ++ [len], tts := σ.tts ++ [e] } w where
  n := h.n
  nm := h.nm
  tl := by simp [Mem.addT, h.tl]
  base := h.base
  past := h.past
  glob g cs hg := by
    obtain ⟨k1, us, k2, k3⟩ := h.glob g cs hg
    exact ⟨k1, us, k2.mono (Ev.addT μ w _ _ _), k3⟩
  obj o cs' ho' := by
    obtain ⟨k1, k2, k3, us, k4, k5⟩ := h.obj o cs' ho'
    exact ⟨k1, k2, k3, us, k4.mono (Ev.addT μ w _ _ _), k5⟩
  inj := h.inj
  map r es hr := by
    obtain ⟨k1, cl, us, k2, k3, k4⟩ := h.map r es hr
    exact ⟨k1, cl, us, k2, k3, fun j k v e hj hu => ⟨(k4 j k v e hj hu).1.mono (Ev.addT μ w _ _ _), (k4 j k v e hj hu).2.mono (Ev.addT μ w _ _ _)⟩⟩
  minj := h.minj
  tok t ht' := by
    simp only [Mem.addT, List.length_append, List.length_cons, List.length_nil] at ht' ⊢
    by_cases e : t = μ.tl.length
    · subst e
      simp only [if_true, List.getD_eq_getElem?_getD, List.getElem?_append_right (Nat.le_refl _), Nat.sub_self, List.getElem?_cons_zero, Option.getD_some]
      exact ⟨hb, hlt, hp, ho⟩
    · have hlt' : t < μ.tl.length := by omega
      rw [if_neg e]
      obtain ⟨k1, k2, k3, k4⟩ := h.tok t hlt'
      refine ⟨k1, k2, ?_, k4⟩
      rw [k3]
      simp only [List.getD_eq_getElem?_getD, List.getElem?_append_left hlt']
  tinj t t' ht1 ht2 e := by
    simp only [Mem.addT, List.length_append, List.length_cons, List.length_nil] at ht1 ht2 e
    split at e <;> split at e
    · omega
    · exact absurd e.symm (ht t' (by omega))
    · exact absurd e (ht t (by omega))
    · exact h.tinj t t' (by omega) (by omega) e
  mo := h.mo
  mt r t hr ht' := by
    simp only [Mem.addT, List.length_append, List.length_cons, List.length_nil] at ht' ⊢
    split
    · exact hm r hr
    · exact h.mt r t hr (by omega)
  tys := h.tys
  ty := h.ty
  tts := by simp [h.tts]
  tt i e' hi := by
    simp only [Mem.addT]
    by_cases e0 : i = μ.tl.length
    · subst e0
      rw [if_pos rfl]
      rw [h.tl, ← h.tts] at hi
      simp only [List.getElem?_append_right (Nat.le_refl _), Nat.sub_self, List.getElem?_cons_zero, Option.some.injEq] at hi
      exact hi
    · rw [if_neg e0]
      have hlt' : i < σ.tts.length := by
        have := (List.getElem?_eq_some_iff.1 hi).1
        simp only [List.length_append, List.length_cons, List.length_nil] at this
        rw [h.tl, ← h.tts] at e0
        omega
      rw [List.getElem?_append_left hlt'] at hi
      exact h.tt i e' hi

/-- One more map. -/
theorem Ev.addM (μ : Mem) (w : World) (b : Nat) : Ev μ w (μ.addM b) w :=
  ⟨rfl, rfl, Nat.le_refl _, fun _ _ => rfl, fun _ _ _ => rfl, fun _ => Nat.le_refl _, fun _ _ h => h, Nat.le_refl _, fun _ _ => rfl, Nat.le_succ _,
    fun o ho => by simp only [Mem.addM]; rw [if_neg (by omega)], Nat.le_refl _, fun _ _ => ⟨Nat.le_refl _, fun _ => ⟨rfl, rfl⟩⟩, rfl, rfl, rfl, fun _ c _ f h => ⟨c, f, h, fun _ _ h => h⟩, fun _ _ => rfl⟩

theorem Rel.addM (h : Rel μ σ w) {b : Nat} {cl : Nat} (hb : μ.base ≤ b) (hh : w.heap[b]? = some (.map #[] cl)) (ho : ∀ o, o < μ.nm → μ.mb o ≠ b) (hob : ∀ o, o < μ.n → μ.ob o ≠ b) (ht : ∀ t, t < μ.tl.length → (μ.tk t).1 ≠ b) :
    Rel (μ.addM b) { σ with maps := σ.maps ++ [[]] } w where
  n := h.n
  nm := by simp [Mem.addM, h.nm]
  tl := h.tl
  base := h.base
  past := h.past
  glob g cs hg := by
    obtain ⟨k1, us, k2, k3⟩ := h.glob g cs hg
    exact ⟨k1, us, k2.mono (Ev.addM μ w b), k3⟩
  obj o cs' ho' := by
    obtain ⟨k1, k2, k3, us, k4, k5⟩ := h.obj o cs' ho'
    exact ⟨k1, k2, k3, us, k4.mono (Ev.addM μ w b), k5⟩
  inj := h.inj
  map r es hr := by
    simp only [Mem.addM]
    by_cases e : r = μ.nm
    · subst e
      rw [if_pos rfl]
      rw [h.nm] at hr
      simp only [List.getElem?_append_right (Nat.le_refl _), Nat.sub_self, List.getElem?_cons_zero, Option.some.injEq] at hr
      subst hr
      exact ⟨hb, cl, #[], hh, rfl, fun j k v e hj => by simp at hj⟩
    · rw [if_neg e]
      have hlt' : r < σ.maps.length := by
        have := (List.getElem?_eq_some_iff.1 hr).1
        simp only [List.length_append, List.length_cons, List.length_nil] at this
        rw [h.nm] at e
        omega
      rw [List.getElem?_append_left hlt'] at hr
      obtain ⟨k1, cl, us, k2, k3, k4⟩ := h.map r es hr
      exact ⟨k1, cl, us, k2, k3, fun j k v e hj hu => ⟨(k4 j k v e hj hu).1.mono (Ev.addM μ w b), (k4 j k v e hj hu).2.mono (Ev.addM μ w b)⟩⟩
  minj r r' hr hr' e := by
    simp only [Mem.addM] at hr hr' e
    split at e <;> split at e
    · omega
    · exact absurd e.symm (ho r' (by omega))
    · exact absurd e (ho r (by omega))
    · exact h.minj r r' (by omega) (by omega) e
  tok := h.tok
  tinj := h.tinj
  mo r o hr ho' := by
    simp only [Mem.addM] at hr ⊢
    split
    · exact fun e => hob o ho' e.symm
    · exact h.mo r o (by omega) ho'
  mt r t hr ht' := by
    simp only [Mem.addM] at hr ⊢
    split
    · exact fun e => ht t ht' e.symm
    · exact h.mt r t (by omega) ht'
  tys := h.tys
  ty o e ho := h.ty o e ho
  tts := h.tts
  tt := h.tt

end
end Go.Vs

namespace Go.Vs
section
variable {P : Program} {m : Nat} {μ : Mem} {w : World} {fr : Fr} {ρ : Operand → Value} {σ : St} {K : V → St → Prop} {r : Result Next}

/-- Splicing, at lists of whatever. -/
def splice {α : Type} (cs : List α) (off : Nat) (vs : List α) : List α := cs.take off ++ vs ++ cs.drop (off + vs.length)

theorem splice_length {α : Type} {cs : List α} {off : Nat} {vs : List α} (h : off + vs.length ≤ cs.length) : (splice cs off vs).length = cs.length := by
  simp only [splice, List.length_append, List.length_take, List.length_drop]; omega

theorem set_splice {α : Type} (cs : List α) (k : Nat) (v : α) (vs : List α) (h : k + (v :: vs).length ≤ cs.length) :
    (cs.set k v).take (k + 1) ++ vs ++ (cs.set k v).drop (k + 1 + vs.length) = cs.take k ++ (v :: vs) ++ cs.drop (k + (v :: vs).length) := by
  simp only [List.length_cons] at h
  have h1 : (cs.set k v).take (k + 1) = cs.take k ++ [v] := by
    apply List.ext_getElem
    · simp; omega
    · intro i h1 h2
      simp only [List.getElem_take, List.getElem_set, List.getElem_append, List.length_take]
      split
      · rename_i e; subst e; rw [dif_neg (by omega)]; simp
      · simp only [List.length_take, List.length_set] at h1
        rw [dif_pos (by omega)]
  have h2 : (cs.set k v).drop (k + 1 + vs.length) = cs.drop (k + (vs.length + 1)) := by
    rw [List.drop_set_of_lt (by omega)]
    congr 1; omega
  rw [h1, h2]
  simp

theorem foldl_splice : ∀ (vs : List Value) (k off : Nat) (cells : Array Value), off + k + vs.length ≤ cells.size →
    ((vs.zipIdx k).foldl (fun cs (x : Value × Nat) => cs.setIfInBounds (off + x.2) x.1) cells).toList = splice cells.toList (off + k) vs
  | [], k, off, cells, _ => by simp [splice]
  | v :: vs, k, off, cells, h => by
    simp only [List.length_cons] at h
    rw [List.zipIdx_cons, List.foldl_cons, foldl_splice vs (k + 1) off _ (by simp; omega)]
    have e := set_splice cells.toList (off + k) v vs (by simp; omega)
    simp only [splice, Array.toList_setIfInBounds]
    rw [← Nat.add_assoc]
    exact e

theorem fill_step (place : Nat → Option (Nat × Nat)) (cells : Array Value) (i : Nat) (v : Value) (rest : List (Nat × Value)) {off size : Nat} (hp : place i = some (off, size)) (h1 : v.cells.size = size) (h2 : off + size ≤ cells.size) :
    Instr.fill place cells ((i, v) :: rest) = Instr.fill place (splice cells.toList off v.cells.toList).toArray rest := by
  subst h1
  have e : (v.cells.zipIdx.foldl (fun cs (x : Value × Nat) => cs.setIfInBounds (off + x.2) x.1) cells) = (splice cells.toList off v.cells.toList).toArray := by
    apply Array.ext'
    rw [← Array.foldl_toList, Array.toList_zipIdx]
    have := foldl_splice v.cells.toList 0 off cells (by simpa using h2)
    simpa using this
  simp only [Instr.fill, hp]
  rw [if_neg (by simp; omega)]
  exact congrArg (fun c => Instr.fill place c rest) e

theorem RVs.splice {cs vs : List V} {us xs : List Value} (h : RVs μ w cs us) (k : RVs μ w vs xs) (off : Nat) : RVs μ w (splice cs off vs) (splice us off xs) := by
  unfold Go.Vs.splice
  rw [k.1]
  exact ((h.take _).append k).append (h.drop _)

theorem spl_eq (cs : List V) (off : Nat) (vs : List V) : spl cs off vs = splice cs off vs := rfl

theorem splice_mem {α : Type} {cs vs : List α} {off : Nat} {x : α} (h : x ∈ splice cs off vs) : x ∈ cs ∨ x ∈ vs := by
  simp only [splice, List.mem_append] at h
  rcases h with (h | h) | h
  · exact .inl (List.mem_of_mem_take h)
  · exact .inr h
  · exact .inl (List.mem_of_mem_drop h)

/-- Parts that go in one after another. -/
theorem fill_sound (place : Nat → Option (Nat × Nat)) : ∀ (ps : List (Nat × Nat × V)) (qs : List (Nat × Value)) (cs : List V) (us : List Value) (out : List V),
    ps.length = qs.length → (∀ (i : Nat) (p : Nat × Nat × V) (q : Nat × Value), ps[i]? = some p → qs[i]? = some q → place q.1 = some (p.1, p.2.1) ∧ RV μ w p.2.2 q.2) →
    RVs μ w cs us → (∀ u ∈ us, u.oneCell' = true) → fillV cs ps = some out →
    ∃ us', Instr.fill place us.toArray qs = some us'.toArray ∧ RVs μ w out us' ∧ ∀ u ∈ us', u.oneCell' = true
  | [], [], cs, us, out, _, _, hr, h1, h => by
    simp only [fillV, Option.some.injEq] at h
    subst h
    exact ⟨us, rfl, hr, h1⟩
  | [], _ :: _, _, _, _, h, _, _, _, _ => by simp at h
  | _ :: _, [], _, _, _, h, _, _, _, _ => by simp at h
  | (off, sz, v) :: ps, (i, u) :: qs, cs, us, out, hl, hp, hr, h1, h => by
    simp only [fillV] at h
    split at h
    · rename_i hc
      obtain ⟨hc1, k3, hc2⟩ := hc
      obtain ⟨k1, k2⟩ := hp 0 _ _ rfl rfl
      have hcells := k2.cells
      have hsz : u.cells.size = sz := by rw [← hc1, hcells.1]; simp
      rw [fill_step place us.toArray i u qs k1 hsz (by simpa [← hr.1] using hc2)]
      refine fill_sound place ps qs (spl cs off v.cells) _ out (by simpa using hl) (fun j p q hp' hq' => hp (j + 1) p q hp' hq') ?_ ?_ h
      · exact hr.splice hcells off
      · intro x hx
        rcases splice_mem hx with hx | hx
        · exact h1 x hx
        · exact k2.cellsOne k3 x hx
    · cases h

/-- A struct, built: the parts by their fields' places. -/
theorem snd_build {t : TypeId} {i : TypeInfo} {z : Value} {zs : List V} {ps : Array (Nat × Value)} {qs : List (Nat × Nat × V)} (place : Nat → Option (Nat × Nat)) (hi : P.info? t = some i) (hz : i.zero = some z) (hzv : cval z = some (.agg zs))
    (hrun : ∀ out, Instr.fill place z.cells ps.toList = some out → (Instr.build t ps).run P w = .ok (.agg out) w)
    (hl : qs.length = ps.toList.length) (hp : ∀ (i : Nat) (p : Nat × Nat × V) (q : Nat × Value), qs[i]? = some p → ps.toList[i]? = some q → place q.1 = some (p.1, p.2.1) ∧ RV μ w p.2.2 q.2) (hrel : Rel μ σ w)
    (h : match (generalizing := false) fillV zs qs with | some cs => K (.agg cs) σ | none => False) : Snd μ w ((do pure (Next.value (← Instr.build t ps)) : Sem Next).run P w) K := by
  split at h
  · rename_i out hout
    obtain ⟨us, rfl, hr, h1⟩ := RV.ofAgg (cval_sound (μ := μ) (w := w) hzv)
    obtain ⟨us', k1, k2, k3⟩ := fill_sound place qs ps.toList zs us out hl hp hr h1 hout
    exact Snd.val (u := .agg us'.toArray) (by simp [hrun _ k1]) hrel (RV.mkAgg k2 k3) h
  · exact h.elim

/-! ### Slices -/
/-- The cells of elements of one size, one after another. -/
theorem flat_get {α : Type} {f : α → List Value} {sz : Nat} : ∀ (xs : List α), (∀ x ∈ xs, (f x).length = sz) → (xs.flatMap f).length = xs.length * sz ∧
    ∀ i j (x : α), xs[i]? = some x → j < sz → (xs.flatMap f)[i * sz + j]? = (f x)[j]?
  | [], _ => ⟨by simp, fun i j x hx => by simp at hx⟩
  | y :: ys, h => by
    obtain ⟨h1, h2⟩ := flat_get ys fun x hx => h x (List.mem_cons_of_mem _ hx)
    have hy := h y List.mem_cons_self
    refine ⟨by simp only [List.flatMap_cons, List.length_append, h1, hy, List.length_cons, Nat.succ_mul]; omega, fun i j x hx hj => ?_⟩
    cases i with
    | zero =>
      simp only [List.getElem?_cons_zero, Option.some.injEq] at hx
      subst hx
      rw [Nat.zero_mul, Nat.zero_add, List.flatMap_cons, List.getElem?_append_left (by omega)]
    | succ i =>
      simp only [List.getElem?_cons_succ] at hx
      rw [List.flatMap_cons, List.getElem?_append_right (by rw [hy, Nat.succ_mul]; omega), hy]
      rw [show (i + 1) * sz + j - sz = i * sz + j by rw [Nat.succ_mul]; omega]
      exact h2 i j x hx hj

/-- A new row of elements is a slice; what is behind the elements is room. -/
theorem RV.row {xs : List V} {us : List Value} {sz b off cap : Nat} (h : RVs μ w xs us) (hsz : ∀ x ∈ xs, x.cells.length = sz) (ht : ∀ x ∈ xs, x.notTup = true) {all : List Value} (hall : all = us.flatMap (·.cells.toList))
    (hat : w.rangeAt b off all) (hpr : off + all.length ≤ μ.pr b) {tk : Tk} (htk : TkOk μ w xs.length b off cap sz tk) (hcap : xs.length ≤ cap) :
    RV μ w (.slc true xs tk) (.slice (some ⟨b, off, none⟩) xs.length cap) := by
  have hus : ∀ u ∈ us, u.cells.toList.length = sz ∧ ∀ y ∈ u.cells.toList, y.oneCell' = true := by
    intro u hu
    obtain ⟨i, hi, rfl⟩ := List.getElem_of_mem hu
    have hi' : i < xs.length := by rw [h.1]; exact hi
    have hv := h.2 i hi'
    rw [List.getD_eq_getElem?_getD, List.getD_eq_getElem?_getD, List.getElem?_eq_getElem hi', List.getElem?_eq_getElem hi] at hv
    simp only [Option.getD_some] at hv
    exact ⟨by rw [← hv.cells.1]; exact hsz _ (List.getElem_mem hi'), hv.cellsOne (ht _ (List.getElem_mem hi'))⟩
  obtain ⟨f1, f2⟩ := flat_get (f := fun u : Value => u.cells.toList) us fun u hu => (hus u hu).1
  subst hall
  refine .slc xs tk b off cap sz _ hsz (by rw [f1, h.1]) hat hpr ?_ ?_ htk hcap
  · intro y hy
    obtain ⟨u, hu, hy⟩ := List.mem_flatMap.1 hy
    exact (hus u hu).2 y hy
  · intro i hi j hj
    have hi' : i < us.length := by rw [← h.1]; exact hi
    have hv := h.2 i hi
    have e := f2 i j us[i] (List.getElem?_eq_getElem hi') hj
    have hc := hv.cells.2 j (by
      rw [List.getD_eq_getElem?_getD, List.getElem?_eq_getElem hi]
      simp only [Option.getD_some]
      rw [hsz _ (List.getElem_mem hi)]; exact hj)
    have e' : (us.flatMap fun u => u.cells.toList).getD (i * sz + j) undef = (us.getD i undef).cells.toList.getD j undef := by
      simp only [List.getD_eq_getElem?_getD, e, List.getElem?_eq_getElem hi', Option.getD_some]
    rw [e']
    exact hc

theorem zerosRow (n : Nat) (zero : Array Value) : ((Array.range n).map (zero[· % zero.size]!)).size = n := by simp

/-- Sequential parts fill the row. -/
theorem fill_seq (sz : Nat) : ∀ (ps : List (Nat × Value)) (i : Nat) (done rest : List Value), (∀ p ∈ ps, p.2.cells.size = sz) → done.length = i * sz → rest.length = ps.length * sz →
    (∀ j p, ps[j]? = some p → p.1 = i + j) →
    Instr.fill (fun i => some (i * sz, sz)) (done ++ rest).toArray ps = some (done ++ ps.flatMap (·.2.cells.toList)).toArray
  | [], i, done, rest, _, _, hr, _ => by
    have : rest = [] := by simpa using hr
    subst this
    simp [Instr.fill]
  | (k, v) :: ps, i, done, rest, hp, hd, hr, hk => by
    have hk0 : k = i := by simpa using hk 0 (k, v) rfl
    subst hk0
    have hv := hp (k, v) List.mem_cons_self
    simp only [List.length_cons, Nat.succ_mul] at hr
    rw [fill_step _ _ k v ps (off := k * sz) (size := sz) rfl hv (by simp; omega)]
    have e : splice (done ++ rest).toArray.toList (k * sz) v.cells.toList = (done ++ v.cells.toList) ++ rest.drop sz := by
      have hvl : v.cells.toList.length = sz := by simpa using hv
      simp only [splice, hvl, ← hd]
      simp [List.take_append, List.drop_append]
    rw [e, fill_seq sz ps (k + 1) (done ++ v.cells.toList) (rest.drop sz) (fun p h => hp p (List.mem_cons_of_mem _ h)) (by simp [hd, hv, Nat.succ_mul]) (by simp; omega)
      (fun j p hj => by have := hk (j + 1) p (by simpa using hj); omega)]
    simp [List.append_assoc]

end
end Go.Vs

namespace Go.Vs
section
variable {P : Program} {m : Nat} {μ : Mem} {w : World} {fr : Fr} {ρ : Operand → Value} {σ : St} {K : V → St → Prop} {r : Result Next}

theorem range_alloc (w : World) (c : Array Value) (t : TypeId) : (w.alloc (.cells c t)).rangeAt w.heap.size 0 c.toList := fun j v hv => by
  rw [Nat.zero_add, World.cell?_alloc_at c t _ _ rfl]
  simpa using hv

theorem Ev.step {μ₁ μ₂ : Mem} {w₁ : World} (h : Ev μ w μ₁ w₁) (k : Ev μ₁ w₁ μ₂ w₁) : Ev μ w μ₂ w₁ := h.trans k

/-- A new variable. -/
theorem snd_new {cs : List V} {c : Array Value} {t : TypeId} (hr : RVs μ w cs c.toList) (h1 : ∀ u ∈ c.toList, u.oneCell' = true) (hrel : Rel μ σ w)
    (hrun : r = .ok (.value (.pointer (some ⟨w.heap.size, 0, none⟩))) (w.alloc (.cells c t)))
    (h : K (.ref (some (σ.objs.length, 0))) { σ with objs := σ.objs ++ [cs], tys := σ.tys ++ [t] }) : Snd μ w r K := by
  have hrel1 := hrel.alloc (.cells c t) 0
  have hev1 := Ev.alloc hrel (.cells c t) 0
  have hsz : (w.alloc (.cells c t)).heap.size = w.heap.size + 1 := Array.size_push ..
  have hrel2 := hrel1.addO (b := w.heap.size) (cs := cs) (us := c.toList) (by rw [hev1.base]; exact hrel.base) (by rw [hsz]; omega) (by simp [Mem.prot]) (hr.mono hev1) (range_alloc w c t)
    (fun j => World.frozen?_alloc_at c t _ j rfl) h1 (fun o ho e => by have := hrel.ob_lt ho; have e' : μ.ob o = w.heap.size := e; omega)
    (fun t ht e => by have := (hrel.tok t ht).2.1; have e' : (μ.tk t).1 = w.heap.size := e; omega)
    (fun r hr e => by have := hrel.mb_lt hr; have e' : μ.mb r = w.heap.size := e; omega) (e := t) ⟨c, (0, 0), by show (w.heap.push _)[w.heap.size]? = _; simp⟩
  refine ⟨_, _, _, _, _, .inl hrun, hev1.trans (Ev.addO _ _ _), hrel2, ?_, h⟩
  have hn : (μ.prot w.heap.size 0).n = σ.objs.length := hrel1.n
  have := RV.ref (μ := (μ.prot w.heap.size 0).addO w.heap.size) (w := w.alloc (.cells c t)) σ.objs.length 0 (by simp [Mem.addO, hn])
  simpa [Mem.addO, hn] using this

theorem snd_alloc {e : TypeId} {i : TypeInfo} {z : Value} {zv : V} (hi : P.info? e = some i) (hz : i.zero = some z) (hzv : cval z = some zv) (hnt : zv.notTup = true) (hrel : Rel μ σ w)
    (h : K (.ref (some (σ.objs.length, 0))) { σ with objs := σ.objs ++ [zv.cells], tys := σ.tys ++ [e] }) : Snd μ w ((do pure (Next.value (← Instr.alloc e true (.tuple #[]))) : Sem Next).run P w) K := by
  have hv : RV μ w zv z := cval_sound hzv
  refine snd_new (c := z.cells) (t := e) hv.cells (hv.cellsOne hnt) hrel ?_ h
  simp [Instr.alloc, zeroValue_run hi hz, newVar, newRow]

theorem snd_box {e : TypeId} {x : Value} {a : V} (hx : RV μ w a x) (hnt : a.notTup = true) (hrel : Rel μ σ w)
    (h : K (.ref (some (σ.objs.length, 0))) { σ with objs := σ.objs ++ [a.cells], tys := σ.tys ++ [e] }) : Snd μ w ((do pure (Next.value (← Instr.box e x)) : Sem Next).run P w) K := by
  refine snd_new (c := x.cells) (t := e) hx.cells (hx.cellsOne hnt) hrel ?_ h
  simp [Instr.box, newVar, newRow]

/-- A new row of elements: no abstract store is touched. -/
theorem snd_row {xs : List V} {us : List Value} {sz cap : Nat} {c : Array Value} {t : TypeId} (h : RVs μ w xs us) (hsz : ∀ x ∈ xs, x.cells.length = sz) (ht : ∀ x ∈ xs, x.notTup = true) (hrel : Rel μ σ w)
    (hc : us.flatMap (·.cells.toList) = c.toList.take (xs.length * sz)) (hcap : xs.length ≤ cap) {tk : Tk} (htk : TkOk (μ.prot w.heap.size (xs.length * sz)) (w.alloc (.cells c t)) xs.length w.heap.size 0 cap sz tk) :
    RV (μ.prot w.heap.size (xs.length * sz)) (w.alloc (.cells c t)) (.slc true xs tk) (.slice (some ⟨w.heap.size, 0, none⟩) xs.length cap) := by
  have hev := Ev.alloc hrel (.cells c t) (xs.length * sz)
  refine RV.row (h.mono hev) hsz ht rfl ?_ ?_ htk hcap
  · rw [hc]; exact rangeAt_take (range_alloc w c t) _
  · rw [hc]; simp only [Mem.prot, if_true, List.length_take]; omega

theorem mem_RVs {xs : List V} {us : List Value} (h : RVs μ w xs us) {u : Value} (hu : u ∈ us) : ∃ x ∈ xs, RV μ w x u := by
  obtain ⟨i, hi, rfl⟩ := List.getElem_of_mem hu
  have hi' : i < xs.length := by rw [h.1]; exact hi
  refine ⟨xs[i], List.getElem_mem hi', ?_⟩
  have := h.2 i hi'
  simpa [List.getD_eq_getElem?_getD, List.getElem?_eq_getElem hi', List.getElem?_eq_getElem hi] using this

theorem snd_bslc {t e : TypeId} {ei : TypeInfo} {z : Value} {len : Nat} {ps : Array (Nat × Value)} {xs : List V} (hu : P.underlying t = some (.slice e)) (hi : P.info? e = some ei) (hz : ei.zero = some z) (hzs : z.cells.size = ei.size) (hpos : 0 < ei.size)
    (hseq : ∀ (j : Nat) (p : Nat × Value), ps.toList[j]? = some p → p.1 = j) (hlen : ps.size = len) (hbig : len * ei.size ≤ 16777216) (hr : RVs μ w xs (ps.toList.map (·.2))) (hrel : Rel μ σ w)
    (h : (∀ x ∈ xs, x.cells.length = ei.size ∧ x.notTup = true) ∧ K (.slc true xs .full) σ) : Snd μ w ((do pure (Next.value (← Instr.buildSlice t len ps)) : Sem Next).run P w) K := by
  obtain ⟨hx, h⟩ := h
  have hl : xs.length = len := by rw [hr.1, List.length_map, Array.length_toList, hlen]
  have hps : ∀ p ∈ ps.toList, p.2.cells.size = ei.size := fun p hp => by
    obtain ⟨x, hxm, hv⟩ := mem_RVs hr (List.mem_map.2 ⟨p, hp, rfl⟩)
    have := hv.cells.1
    rw [(hx x hxm).1] at this
    simpa using this.symm
  have hfill := fill_seq ei.size ps.toList 0 [] ((Array.range (len * ei.size)).map (z.cells[· % z.cells.size]!)).toList hps (by simp) (by simp [hlen]) (fun j p hj => by rw [hseq j p hj]; omega)
  simp only [List.nil_append, Array.toArray_toList] at hfill
  have hflat : (ps.toList.flatMap (·.2.cells.toList)) = (ps.toList.map (·.2)).flatMap (·.cells.toList) := by
    simp [List.flatMap_map]
  have hlen2 : (ps.toList.flatMap (·.2.cells.toList)).length = len * ei.size := by
    rw [(flat_get (f := fun p : Nat × Value => p.2.cells.toList) ps.toList fun p hp => by simpa using hps p hp).1, Array.length_toList, hlen]
  have hrow := snd_row (c := (ps.toList.flatMap (·.2.cells.toList)).toArray) (t := e) (cap := len) (tk := .full) hr (fun x h => (hx x h).1) (fun x h => (hx x h).2) hrel
    (by simp only [hflat]; rw [List.take_of_length_le (by rw [← hflat, hlen2, hl]; omega)]) (by omega) hl
  rw [hl] at hrow
  have hbig' : ¬ (16777216 < len * ei.size) := by omega
  refine ⟨_, σ, _, _, _, .inl ?_, Ev.alloc hrel (.cells (ps.toList.flatMap (·.2.cells.toList)).toArray e) (len * ei.size), hrel.alloc _ _, hrow, h⟩
  by_cases h0 : len * ei.size = 0
  · have hl0 : len = 0 := by
      rcases Nat.mul_eq_zero.1 h0 with h | h
      · exact h
      · omega
    have hps0 : ps = #[] := by
      have : ps.size = 0 := by omega
      simpa using this
    subst hps0
    have e0 : Array.map (fun x => z.cells[x % z.cells.size]!) (Array.range 0) = #[] := by simp
    simp only [Instr.buildSlice, Sem.run_bind, underlying_run hu, Result.andThen_ok, sizeOf_run hi]
    simp [hl0, Instr.fill, newRow]
    exact congrArg (fun c => w.alloc (.cells c e)) (by simp)
  · simp only [Instr.buildSlice, Sem.run_bind, underlying_run hu, Result.andThen_ok, sizeOf_run hi, h0, if_false, zeroValue_run hi hz]
    simp [hbig', hfill, newRow, zeroValue_run hi hz]


/-! ### Stores -/
theorem setCells_heap_ne (w : World) (b : Nat) : ∀ (vs : List Value) (o : Nat) (w : World) {k : Nat}, k ≠ b → (w.setCells b o vs).heap[k]? = w.heap[k]?
  | [], _, _, _, _ => rfl
  | v :: vs, o, w, k, h => by
    rw [World.setCells, setCells_heap_ne w b vs _ _ h]
    simp only [World.setCell, Array.getElem?_modify]
    rw [if_neg (fun e => h e.symm)]

theorem setCells_size (b : Nat) : ∀ (vs : List Value) (o : Nat) (w : World), (w.setCells b o vs).heap.size = w.heap.size
  | [], _, _ => rfl
  | v :: vs, o, w => by rw [World.setCells, setCells_size b vs]; simp [World.setCell]

theorem setCells_shape (k : Nat) : ∀ (vs : List Value) (o : Nat) (w : World) (b : Nat) (c : Array Value) (e : TypeId) (f : Nat × Nat), w.heap[b]? = some (.cells c e f) → ∃ c', (w.setCells k o vs).heap[b]? = some (.cells c' e f)
  | [], _, _, _, c, _, _, h => ⟨c, h⟩
  | v :: vs, o, w, b, c, e, f, h => by
    rw [World.setCells]
    by_cases hb : k = b
    · subst hb
      refine setCells_shape k vs _ _ k (c.setIfInBounds o v) e f ?_
      simp only [World.setCell, Array.getElem?_modify, if_true, h, Option.map_some]
      rfl
    · refine setCells_shape k vs _ _ b c e f ?_
      simp only [World.setCell, Array.getElem?_modify]
      rw [if_neg hb]; exact h

theorem setCells_rest (b : Nat) : ∀ (vs : List Value) (o : Nat) (w : World), (w.setCells b o vs).os = w.os ∧ (w.setCells b o vs).tape = w.tape ∧ (w.setCells b o vs).output = w.output
  | [], _, _ => ⟨rfl, rfl, rfl⟩
  | v :: vs, o, w => by
    rw [World.setCells]
    obtain ⟨h1, h2, h3⟩ := setCells_rest b vs (o + 1) (w.setCell ⟨b, o, none⟩ v)
    exact ⟨h1, h2, h3⟩

/-- Cells written past what is protected. -/
theorem Ev.write (hrel : Rel μ σ w) {b o : Nat} (vs : List Value) (hb : μ.base ≤ b) (hp : μ.pr b ≤ o) : Ev μ w μ (w.setCells b o vs) where
  base := rfl
  G := rfl
  size := by rw [setCells_size]; exact Nat.le_refl _
  old k hk := setCells_heap_ne w b vs o w (by omega)
  cell k j hj := World.cell?_setCells_out b vs o w ⟨k, j, none⟩ (fun e _ => by
    have e' : k = b := e
    subst e'
    left; show j < o; omega)
  pr _ := Nat.le_refl _
  there k j hj := World.isSome_setCells b vs o w _ hj
  n := Nat.le_refl _
  ob _ _ := rfl
  nm := Nat.le_refl _
  mb _ _ := rfl
  tl := Nat.le_refl _
  tk _ _ := ⟨Nat.le_refl _, fun _ => ⟨rfl, rfl⟩⟩
  os := (setCells_rest b vs o w).1
  tape := (setCells_rest b vs o w).2.1
  output := (setCells_rest b vs o w).2.2
  shape k c e f hc := by
    obtain ⟨c', h'⟩ := setCells_shape b vs o w k c e f hc
    exact ⟨c', f, h', fun _ _ h => h⟩
  tt _ _ := rfl

theorem range_write {b o : Nat} {us vs : List Value} (hr : w.rangeAt b 0 us) (h : o + vs.length ≤ us.length) : (w.setCells b o vs).rangeAt b 0 (splice us o vs) := fun j v hv => by
  rw [Nat.zero_add]
  have hthere : ∀ i, i < vs.length → (w.cell? ⟨b, o + i, none⟩).isSome = true := fun i hi => by
    have hlt : o + i < us.length := by omega
    have := hr (o + i) _ (List.getElem?_eq_getElem hlt)
    rw [Nat.zero_add] at this
    rw [this]; rfl
  have hjl : j < us.length := by
    have := (List.getElem?_eq_some_iff.1 hv).1
    rwa [splice_length h] at this
  by_cases h1 : j < o
  · rw [World.cell?_setCells_out b vs o w ⟨b, j, none⟩ (fun _ _ => .inl h1)]
    have : us[j]? = some v := by
      rw [splice, List.append_assoc, List.getElem?_append_left (by simp; omega), List.getElem?_take, if_pos h1] at hv
      exact hv
    have := hr j v this
    rwa [Nat.zero_add] at this
  · by_cases h2 : j < o + vs.length
    · have hlt : j - o < vs.length := by omega
      have := World.cell?_setCells_in b vs o w hthere (j - o) hlt
      rw [show o + (j - o) = j by omega] at this
      rw [this]
      rw [splice, List.append_assoc, List.getElem?_append_right (by simp; omega), List.length_take, Nat.min_eq_left (by omega), List.getElem?_append_left hlt] at hv
      rw [← hv, List.getElem?_eq_getElem hlt]
    · rw [World.cell?_setCells_out b vs o w ⟨b, j, none⟩ (fun _ _ => .inr (by show o + vs.length ≤ j; omega))]
      have : us[j]? = some v := by
        rw [splice, List.getElem?_append_right (by simp; omega), List.getElem?_drop] at hv
        rw [← hv]
        congr 1
        simp only [List.length_append, List.length_take]
        omega
      have := hr j v this
      rwa [Nat.zero_add] at this

/-- An object, written. -/
theorem Rel.write (hrel : Rel μ σ w) {o off : Nat} {cs vs : List V} {xs : List Value} (ho : σ.objs[o]? = some cs) (hv : RVs μ w vs xs) (h1 : ∀ x ∈ xs, x.oneCell' = true) (hlen : off + vs.length ≤ cs.length) :
    Rel μ { σ with objs := σ.objs.set o (spl cs off vs) } (w.setCells (μ.ob o) off xs) ∧ Ev μ w μ (w.setCells (μ.ob o) off xs) := by
  obtain ⟨hb, hlt, hp, us, hr, hat, hf, hone⟩ := hrel.obj o cs ho
  have hon : o < μ.n := by rw [hrel.n]; exact (List.getElem?_eq_some_iff.1 ho).1
  have hev : Ev μ w μ (w.setCells (μ.ob o) off xs) := Ev.write hrel xs hb (by omega)
  have hne : ∀ k, k ≠ μ.ob o → (w.setCells (μ.ob o) off xs).heap[k]? = w.heap[k]? := fun k hk => setCells_heap_ne w _ xs off w hk
  refine ⟨?_, hev⟩
  constructor
  case n => simp [hrel.n]
  case nm => exact hrel.nm
  case tl => exact hrel.tl
  case base => rw [setCells_size]; exact hrel.base
  case past => intro b hb; rw [setCells_size] at hb; exact hrel.past b hb
  case glob =>
    intro g cs hg
    obtain ⟨k1, us, k2, k3, k4⟩ := hrel.glob g cs hg
    exact ⟨k1, us, k2.mono hev, range_of_heap (hne g (by omega)) k3, k4⟩
  case obj =>
    intro o' cs' ho'
    by_cases e : o' = o
    · subst e
      rw [List.getElem?_set_self (List.getElem?_eq_some_iff.1 ho).1] at ho'
      simp only [Option.some.injEq] at ho'
      subst ho'
      have hle : off + xs.length ≤ us.length := by rw [← hr.1, ← hv.1]; exact hlen
      refine ⟨hb, by rw [setCells_size]; exact hlt, hp, splice us off xs, ?_, range_write hat hle, fun j => by rw [World.frozen?_setCells]; exact hf j, ?_⟩
      · rw [spl_eq]; exact (hr.splice hv off).mono hev
      · intro u hu
        rcases splice_mem hu with hu | hu
        · exact hone u hu
        · exact h1 u hu
    · rw [List.getElem?_set_ne (Ne.symm e)] at ho'
      obtain ⟨k1, k2, k3, us', k4, k5, k6, k7⟩ := hrel.obj o' cs' ho'
      have hon' : o' < μ.n := by rw [hrel.n]; exact (List.getElem?_eq_some_iff.1 ho').1
      have hk : μ.ob o' ≠ μ.ob o := fun h => e (hrel.inj o' o hon' hon h)
      exact ⟨k1, by rw [setCells_size]; exact k2, k3, us', k4.mono hev, range_of_heap (hne _ hk) k5, fun j => by rw [World.frozen?_setCells]; exact k6 j, k7⟩
  case inj => exact hrel.inj
  case map =>
    intro r es hr'
    obtain ⟨k1, cl, us', k2, k3, k4⟩ := hrel.map r es hr'
    have hk : μ.mb r ≠ μ.ob o := hrel.mo r o (by rw [hrel.nm]; exact (List.getElem?_eq_some_iff.1 hr').1) hon
    exact ⟨k1, cl, us', by rw [hne _ hk]; exact k2, k3, fun j k v e hj hu => ⟨(k4 j k v e hj hu).1.mono hev, (k4 j k v e hj hu).2.mono hev⟩⟩
  case minj => exact hrel.minj
  case tok =>
    intro t ht
    obtain ⟨k1, k2, k3, k4⟩ := hrel.tok t ht
    exact ⟨k1, by rw [setCells_size]; exact k2, k3, k4⟩
  case tinj => exact hrel.tinj
  case mo => exact hrel.mo
  case mt => exact hrel.mt
  case tys => simp [hrel.tys]
  case ty => exact fun o' e ho' => (hrel.ty o' e ho').mono hev
  case tts => exact hrel.tts
  case tt => exact hrel.tt

end
end Go.Vs

namespace Go.Vs

def Mem.setT (μ : Mem) (i : Nat) (t : Nat × Nat × Nat) (len : Nat) : Mem := { μ with tl := μ.tl.set i len, tk := fun j => if j = i then t else μ.tk j }
def Mem.raise (μ : Mem) (i : Nat) (b k len : Nat) : Mem := { μ with tl := μ.tl.set i len, pr := fun x => if x = b then k else μ.pr x }

section
variable {P : Program} {m : Nat} {μ : Mem} {w : World} {fr : Fr} {ρ : Operand → Value} {σ : St} {K : V → St → Prop} {r : Result Next}

theorem getD_set_same {l : List Nat} {i a : Nat} (h : i < l.length) : (l.set i a).getD i 0 = a := by
  rw [List.getD_eq_getElem?_getD, List.getElem?_set_self h]; rfl
theorem getD_set_other {l : List Nat} {i j a : Nat} (h : j ≠ i) : (l.set i a).getD j 0 = l.getD j 0 := by
  rw [List.getD_eq_getElem?_getD, List.getD_eq_getElem?_getD, List.getElem?_set_ne (Ne.symm h)]

/-- What lies in a block that is no object, no map and not old may turn. -/
theorem Rel.other {w' : World} (h : Rel μ σ w) (he : Ev μ w μ w') {b : Nat} (hsz : w'.heap.size = w.heap.size) (hne : ∀ k, k ≠ b → w'.heap[k]? = w.heap[k]?) (hb : μ.base ≤ b) (ho : ∀ o, o < μ.n → μ.ob o ≠ b) (hm : ∀ r, r < μ.nm → μ.mb r ≠ b) :
    Rel μ σ w' where
  n := h.n
  nm := h.nm
  tl := h.tl
  base := by rw [hsz]; exact h.base
  past k hk := h.past k (by rw [← hsz]; exact hk)
  glob g cs hg := by
    obtain ⟨k1, us, k2, k3, k4⟩ := h.glob g cs hg
    exact ⟨k1, us, k2.mono he, range_of_heap (hne g (by omega)) k3, k4⟩
  obj o cs ho' := by
    obtain ⟨k1, k2, k3, us, k4, k5, k6, k7⟩ := h.obj o cs ho'
    have hk := hne _ (ho o (by rw [h.n]; exact (List.getElem?_eq_some_iff.1 ho').1))
    exact ⟨k1, by rw [hsz]; exact k2, k3, us, k4.mono he, range_of_heap hk k5, fun j => by rw [frozen_of_heap hk]; exact k6 j, k7⟩
  inj := h.inj
  map r es hr := by
    obtain ⟨k1, cl, us, k2, k3, k4⟩ := h.map r es hr
    have hk := hne _ (hm r (by rw [h.nm]; exact (List.getElem?_eq_some_iff.1 hr).1))
    exact ⟨k1, cl, us, by rw [hk]; exact k2, k3, fun j k v e hj hu => ⟨(k4 j k v e hj hu).1.mono he, (k4 j k v e hj hu).2.mono he⟩⟩
  minj := h.minj
  tok t ht := by rw [hsz]; exact h.tok t ht
  tinj := h.tinj
  mo := h.mo
  mt := h.mt
  tys := h.tys
  ty o e ho' := (h.ty o e ho').mono he
  tts := h.tts
  tt := h.tt

/-- The same store but for how far the rows are filled, in the same world. -/
theorem Rel.retok {μ' : Mem} {toks : List Nat} (h : Rel μ σ w) (he : Ev μ w μ' w) (hn : μ'.n = μ.n) (hnm : μ'.nm = μ.nm) (htl : μ'.tl = toks) (hpast : ∀ b, w.heap.size ≤ b → μ'.pr b = 0)
    (hpr : ∀ o, o < μ.n → μ'.pr (μ.ob o) = 0)
    (tok : ∀ t, t < μ'.tl.length → μ.base ≤ (μ'.tk t).1 ∧ (μ'.tk t).1 < w.heap.size ∧ μ'.pr (μ'.tk t).1 = (μ'.tk t).2.1 + μ'.tl.getD t 0 * (μ'.tk t).2.2 ∧ (∀ o, o < μ.n → μ.ob o ≠ (μ'.tk t).1))
    (tinj : ∀ t t', t < μ'.tl.length → t' < μ'.tl.length → (μ'.tk t).1 = (μ'.tk t').1 → t = t') (mt : ∀ r t, r < μ.nm → t < μ'.tl.length → μ.mb r ≠ (μ'.tk t).1) (hl : toks.length = σ.toks.length) :
    Rel μ' { σ with toks := toks } w where
  n := hn.trans h.n
  nm := hnm.trans h.nm
  tl := htl
  base := by rw [he.base]; exact h.base
  past := hpast
  glob g cs hg := by
    rw [he.G] at hg
    obtain ⟨k1, us, k2, k3, k4, k5⟩ := h.glob g cs hg
    exact ⟨by rw [he.base]; exact k1, us, k2.mono he, k3, Nat.le_trans k4 (he.pr g), k5⟩
  obj o cs ho := by
    obtain ⟨k1, k2, k3, us, k4, k5⟩ := h.obj o cs ho
    have hlt : o < μ.n := by rw [h.n]; exact (List.getElem?_eq_some_iff.1 ho).1
    rw [he.ob o hlt]
    exact ⟨by rw [he.base]; exact k1, k2, hpr o hlt, us, k4.mono he, k5⟩
  inj o o' ho ho' e := by
    rw [hn] at ho ho'
    rw [he.ob o ho, he.ob o' ho'] at e
    exact h.inj o o' ho ho' e
  map r es hr := by
    obtain ⟨k1, cl, us, k2, k3, k4⟩ := h.map r es hr
    have hlt : r < μ.nm := by rw [h.nm]; exact (List.getElem?_eq_some_iff.1 hr).1
    rw [he.mb r hlt]
    exact ⟨by rw [he.base]; exact k1, cl, us, k2, k3, fun j k v e hj hu => ⟨(k4 j k v e hj hu).1.mono he, (k4 j k v e hj hu).2.mono he⟩⟩
  minj r r' hr hr' e := by
    rw [hnm] at hr hr'
    rw [he.mb r hr, he.mb r' hr'] at e
    exact h.minj r r' hr hr' e
  tok t ht := by
    obtain ⟨k1, k2, k3, k4⟩ := tok t ht
    refine ⟨by rw [he.base]; exact k1, k2, k3, fun o ho => ?_⟩
    rw [hn] at ho
    rw [he.ob o ho]
    exact k4 o ho
  tinj := tinj
  mo r o hr ho := by
    rw [hnm] at hr; rw [hn] at ho
    rw [he.mb r hr, he.ob o ho]
    exact h.mo r o hr ho
  mt r t hr ht := by
    rw [hnm] at hr
    rw [he.mb r hr]
    exact mt r t hr ht
  tys := h.tys
  ty o e ho := by
    rw [he.ob o (by rw [h.n, ← h.tys]; exact (List.getElem?_eq_some_iff.1 ho).1)]
    exact h.ty o e ho
  tts := h.tts.trans hl.symm
  tt i e hi := by
    rw [he.tt i (by rw [h.tl, ← h.tts]; exact (List.getElem?_eq_some_iff.1 hi).1)]
    exact h.tt i e hi

/-- An owned row moves to a new block, longer than before. -/
theorem Ev.setT {i : Nat} {t : Nat × Nat × Nat} {len : Nat} (hi : i < μ.tl.length) (hlt : μ.tl.getD i 0 < len) : Ev μ w (μ.setT i t len) w where
  base := rfl
  G := rfl
  size := Nat.le_refl _
  old _ _ := rfl
  cell _ _ _ := rfl
  pr _ := Nat.le_refl _
  there _ _ h := h
  n := Nat.le_refl _
  ob _ _ := rfl
  nm := Nat.le_refl _
  mb _ _ := rfl
  tl := by simp [Mem.setT]
  tk j hj := by
    simp only [Mem.setT]
    by_cases e : j = i
    · subst e
      rw [getD_set_same hi]
      exact ⟨Nat.le_of_lt hlt, fun h => by omega⟩
    · rw [getD_set_other e, if_neg e]
      exact ⟨Nat.le_refl _, fun _ => ⟨rfl, trivial⟩⟩
  os := rfl
  tape := rfl
  output := rfl
  shape _ c _ f h := ⟨c, f, h, fun _ _ h => h⟩
  tt _ _ := rfl

theorem Rel.setT (h : Rel μ σ w) {i : Nat} {b off sz len : Nat} (hi : i < μ.tl.length) (hlt : μ.tl.getD i 0 < len) (hb : μ.base ≤ b) (hbs : b < w.heap.size) (hp : μ.pr b = off + len * sz) (ho : ∀ o, o < μ.n → μ.ob o ≠ b)
    (ht : ∀ t, t < μ.tl.length → (μ.tk t).1 ≠ b) (hm : ∀ r, r < μ.nm → μ.mb r ≠ b) : Rel (μ.setT i (b, off, sz) len) { σ with toks := σ.toks.set i len } w := by
  refine h.retok (Ev.setT hi hlt) rfl rfl (by simp [Mem.setT, h.tl]) h.past (fun o ho => ?_) (fun t ht' => ?_) (fun t t' h1 h2 e => ?_) (fun r t hr ht' => ?_) (by simp)
  · rw [h.n] at ho
    exact (h.obj o _ (List.getElem?_eq_getElem ho)).2.2.1
  · simp only [Mem.setT, List.length_set] at ht' ⊢
    by_cases e : t = i
    · subst e
      rw [if_pos rfl, getD_set_same hi]
      exact ⟨hb, hbs, hp, ho⟩
    · rw [if_neg e, getD_set_other e]
      exact h.tok t ht'
  · simp only [Mem.setT, List.length_set] at h1 h2 e
    split at e <;> split at e
    · omega
    · exact absurd e.symm (ht t' h2)
    · exact absurd e (ht t h1)
    · exact h.tinj t t' h1 h2 e
  · simp only [Mem.setT, List.length_set] at ht' ⊢
    split
    · exact hm r hr
    · exact h.mt r t hr ht'

/-- An owned row is filled further, where it lies. -/
theorem Ev.raise {i : Nat} {b k len : Nat} (hrel : Rel μ σ w) (hi : i < μ.tl.length) (hb : (μ.tk i).1 = b) (hk : μ.pr b ≤ k) (hle : μ.tl.getD i 0 ≤ len) (hkl : len = μ.tl.getD i 0 → k = μ.pr b) : Ev μ w (μ.raise i b k len) w where
  base := rfl
  G := rfl
  size := Nat.le_refl _
  old _ _ := rfl
  cell _ _ _ := rfl
  pr x := by
    simp only [Mem.raise]
    split
    · rename_i e; subst e; exact hk
    · exact Nat.le_refl _
  there _ _ h := h
  n := Nat.le_refl _
  ob _ _ := rfl
  nm := Nat.le_refl _
  mb _ _ := rfl
  tl := by simp [Mem.raise]
  tk j hj := by
    simp only [Mem.raise]
    by_cases e : j = i
    · subst e
      rw [getD_set_same hi]
      refine ⟨hle, fun h => ⟨trivial, ?_⟩⟩
      rw [if_pos hb, hkl h, hb]
    · rw [getD_set_other e]
      refine ⟨Nat.le_refl _, fun _ => ⟨trivial, ?_⟩⟩
      rw [if_neg]
      intro h
      exact e (hrel.tinj j i hj hi (h.trans hb.symm))
  os := rfl
  tape := rfl
  output := rfl
  shape _ c _ f h := ⟨c, f, h, fun _ _ h => h⟩
  tt _ _ := rfl

theorem Rel.raise (h : Rel μ σ w) {i : Nat} {b off sz len : Nat} (hi : i < μ.tl.length) (hk : μ.tk i = (b, off, sz)) (hle : μ.tl.getD i 0 ≤ len) :
    Rel (μ.raise i b (off + len * sz) len) { σ with toks := σ.toks.set i len } w ∧ Ev μ w (μ.raise i b (off + len * sz) len) w := by
  have ht := h.tok i hi
  rw [hk] at ht
  obtain ⟨t1, t2, t3, t4⟩ := ht
  simp only at t1 t2 t3 t4
  have hpk : μ.pr b ≤ off + len * sz := by rw [t3]; have := Nat.mul_le_mul_right sz hle; omega
  have hb : (μ.tk i).1 = b := by rw [hk]
  have hev : Ev μ w (μ.raise i b (off + len * sz) len) w := Ev.raise h hi hb hpk hle (fun e => by rw [t3, e])
  refine ⟨h.retok hev rfl rfl (by simp [Mem.raise, h.tl]) (fun x hx => ?_) (fun o ho => ?_) (fun t ht' => ?_) (fun t t' h1 h2 e => ?_) (fun r t hr ht' => ?_) (by simp), hev⟩
  · simp only [Mem.raise]
    rw [if_neg (by omega)]
    exact h.past x hx
  · simp only [Mem.raise]
    rw [if_neg (t4 o ho)]
    rw [h.n] at ho
    exact (h.obj o _ (List.getElem?_eq_getElem ho)).2.2.1
  · simp only [Mem.raise, List.length_set] at ht' ⊢
    by_cases e : t = i
    · subst e
      rw [getD_set_same hi, hk]
      exact ⟨t1, t2, by simp, t4⟩
    · rw [getD_set_other e]
      obtain ⟨k1, k2, k3, k4⟩ := h.tok t ht'
      refine ⟨k1, k2, ?_, k4⟩
      rw [if_neg]
      · exact k3
      · intro e'
        exact e (h.tinj t i ht' hi (e'.trans hb.symm))
  · simp only [Mem.raise, List.length_set] at h1 h2 e
    exact h.tinj t t' h1 h2 e
  · simp only [Mem.raise, List.length_set] at ht' ⊢
    exact h.mt r t hr ht'

/-- The cells us are those of the elements xs. -/
structure Row (μ : Mem) (w : World) (xs : List V) (sz : Nat) (us : List Value) : Prop where
  size : ∀ x ∈ xs, x.cells.length = sz
  len : us.length = xs.length * sz
  one : ∀ u ∈ us, u.oneCell' = true
  el : ∀ i, i < xs.length → ∀ j, j < sz → RV μ w ((xs.getD i .und).cells.getD j .und) (us.getD (i * sz + j) undef)

theorem Row.mono {μ' : Mem} {w' : World} (he : Ev μ w μ' w') {xs : List V} {sz : Nat} {us : List Value} (h : Row μ w xs sz us) : Row μ' w' xs sz us :=
  ⟨h.size, h.len, h.one, fun i hi j hj => (h.el i hi j hj).mono he⟩

theorem Row.append {xs ys : List V} {sz : Nat} {us vs : List Value} (h : Row μ w xs sz us) (k : Row μ w ys sz vs) : Row μ w (xs ++ ys) sz (us ++ vs) where
  size x hx := by
    rcases List.mem_append.1 hx with hx | hx
    · exact h.size x hx
    · exact k.size x hx
  len := by simp [h.len, k.len, Nat.add_mul]
  one u hu := by
    rcases List.mem_append.1 hu with hu | hu
    · exact h.one u hu
    · exact k.one u hu
  el i hi j hj := by
    simp only [List.length_append] at hi
    by_cases hc : i < xs.length
    · have := h.el i hc j hj
      have hlt : i * sz + j < us.length := by
        rw [h.len]
        have : (i + 1) * sz ≤ xs.length * sz := Nat.mul_le_mul_right sz hc
        rw [Nat.succ_mul] at this; omega
      simpa only [List.getD_eq_getElem?_getD, List.getElem?_append_left hc, List.getElem?_append_left hlt] using this
    · have := k.el (i - xs.length) (by omega) j hj
      have hge : us.length ≤ i * sz + j := by
        rw [h.len]
        have : xs.length * sz ≤ i * sz := Nat.mul_le_mul_right sz (by omega)
        omega
      have e : i * sz + j - us.length = (i - xs.length) * sz + j := by
        rw [h.len, Nat.sub_mul]
        have : xs.length * sz ≤ i * sz := Nat.mul_le_mul_right sz (by omega)
        omega
      simpa only [List.getD_eq_getElem?_getD, List.getElem?_append_right (Nat.le_of_not_lt hc), List.getElem?_append_right hge, e] using this

theorem Row.nil (sz : Nat) : Row μ w [] sz [] := ⟨by simp, by simp, by simp, fun i hi => by simp at hi⟩

/-- A slice's row. -/
theorem RV.rowOf {xs : List V} {tk : Tk} {sz : Nat} {u : Value} (h : RV μ w (.slc true xs tk) u) (hsz : ∀ x ∈ xs, x.cells.length = sz) (hne : xs = [] → tk = .no → False) :
    ∃ b off cap us, u = .slice (some ⟨b, off, none⟩) xs.length cap ∧ Row μ w xs sz us ∧ w.rangeAt b off us ∧ off + us.length ≤ μ.pr b ∧ (xs ≠ [] → TkOk μ w xs.length b off cap sz tk) ∧ xs.length ≤ cap ∧
      ∃ sz', TkOk μ w xs.length b off cap sz' tk := by
  cases h with
  | slc0 => exact (hne rfl rfl).elim
  | slc xs tk b off cap sz' us h1 h2 h3 h4 h5 h6 h7 h8 =>
    cases xs with
    | nil =>
      have : us = [] := by simpa using h2
      subst this
      exact ⟨b, off, cap, [], rfl, Row.nil sz, h3, h4, fun h => absurd rfl h, h8, sz', h7⟩
    | cons x xs =>
      have e : sz' = sz := by rw [← h1 x List.mem_cons_self, hsz x List.mem_cons_self]
      subst e
      exact ⟨b, off, cap, us, rfl, ⟨h1, h2, h5, h6⟩, h3, h4, fun _ => h7, h8, sz', h7⟩

/-- The same, wherever an empty one may lie. -/
theorem RV.rowAt {xs : List V} {tk : Tk} {sz : Nat} {u : Value} (h : RV μ w (.slc true xs tk) u) (hsz : ∀ x ∈ xs, x.cells.length = sz) :
    ∃ a cap us, u = .slice (some a) xs.length cap ∧ Row μ w xs sz us ∧ (∀ j v, us[j]? = some v → w.cell? (a.add j) = some v) ∧ xs.length ≤ cap := by
  by_cases hne : xs = []
  · subst hne
    cases h with
    | slc0 a cap => exact ⟨a, cap, [], rfl, Row.nil sz, fun j v hv => by simp at hv, Nat.zero_le _⟩
    | slc xs tk b off cap sz' us h1 h2 h3 h4 h5 h6 h7 h8 => exact ⟨⟨b, off, none⟩, cap, [], rfl, Row.nil sz, fun j v hv => by simp at hv, h8⟩
  · obtain ⟨b, off, cap, us, e, hr, hat, _, _, hle, _⟩ := h.rowOf hsz (fun h => absurd h hne)
    exact ⟨⟨b, off, none⟩, cap, us, e, hr, fun j v hv => by rw [Addr.add_mid]; exact hat j v hv, hle⟩

theorem appRun {t tx ty : TypeId} {x y : Value} {v : Value} {w' : World} (h : (Builtin.append_ #[t, tx] ty #[x, y]).run P w = .ok v w') :
    ((do pure (Next.value (← Builtin.append_ #[t, tx] ty #[x, y])) : Sem Next).run P w) = .ok (.value v) w' := by simp [h]

/-- A new row, by append: what is there, what comes, and room. -/
theorem grown_row {xs : List V} {sz cap : Nat} {us : List Value} {zc : Array Value} {e : TypeId} (hrel : Rel μ σ w) (h : Row μ w xs sz us) (hz : zc.size = sz) (hcap : xs.length ≤ cap) (i : Nat) {C : Array Value}
    (hC : C = us.toArray ++ Builtin.zeroCells zc (cap - xs.length)) {μ' : Mem} (hev : Ev μ w μ' (w.drew.alloc (.cells C e))) (hpr : μ'.pr w.heap.size = xs.length * sz)
    (hi : i < μ'.tl.length) (hti : μ'.tl.getD i 0 = xs.length) (htk : μ'.tk i = (w.heap.size, 0, sz)) (htt : μ'.tt i = e) :
    RV μ' (w.drew.alloc (.cells C e)) (.slc true xs (.own i)) (.slice (some ⟨w.heap.size, 0, none⟩) xs.length cap) := by
  have h' := h.mono hev
  have hCl : C.toList = us ++ (Builtin.zeroCells zc (cap - xs.length)).toList := by rw [hC]; simp
  have hCs : C.size = cap * sz := by
    rw [hC]
    simp only [Array.size_append, List.size_toArray, h.len, Builtin.zeroCells, Array.size_map, Array.size_range, hz]
    rw [← Nat.add_mul]; congr 1; omega
  have hat : (w.drew.alloc (.cells C e)).rangeAt w.heap.size 0 us := fun j v hv => by
    have := range_alloc w.drew C e j v (by rw [hCl, List.getElem?_append_left (List.getElem?_eq_some_iff.1 hv).1]; exact hv)
    exact this
  refine .slc xs (.own i) w.heap.size 0 cap sz us h'.size h'.len hat (by rw [Nat.zero_add, hpr, h.len]; exact Nat.le_refl _) h'.one h'.el ?_ hcap
  refine ⟨hi, by rw [hti]; exact Nat.le_refl _, fun _ => ⟨htk, by rw [hpr, Nat.zero_add], fun j _ hj => ?_, C, (0, 0), by rw [htt]; show (w.heap.push _)[w.heap.size]? = _; simp, Nat.zero_le _⟩⟩
  have e1 : (w.drew.alloc (.cells C e)).cell? ⟨w.heap.size, 0 + j, none⟩ = C[0 + j]? := World.cell?_alloc_at C e w.heap.size (0 + j) rfl
  rw [e1, Array.getElem?_eq_getElem (by omega)]; rfl

theorem append_sound {t tx ty e : TypeId} {ei : TypeInfo} {z : Value} {x y : Value} {a : V} {ys : List V} {news : List Value} (ht : P.underlying t = some (.slice e)) (hi : P.info? e = some ei) (hz : ei.zero = some z)
    (hzs : z.cells.size = ei.size) (hby : ei.bytes ≤ 4096) (hx : RV μ w a x) (hsrc : Src P ei.size tx y ys.length news w) (hrow : Row μ w ys ei.size news) (hrel : Rel μ σ w) (h : vapp e ei.size σ a ys K) :
    Snd μ w ((do pure (Next.value (← Builtin.append_ #[t, tx] ty #[x, y])) : Sem Next).run P w) K := by
  obtain ⟨hys, h⟩ := h
  have hsz : (w.drew).heap.size = w.heap.size := rfl
  have fit : ∀ {need old : Nat}, old < need → need ≤ big → Builtin.nextslicecap need old * ei.bytes ≤ 281474976710656 := fun hlt hbig =>
    growslice_fits hlt (by
      unfold big at hbig
      have : _ * ei.bytes ≤ 4294967296 * 4096 := Nat.mul_le_mul hbig hby
      omega)
  -- a new row under a new mark
  have fresh : ∀ {base : Option Addr} {xs : List V} {olds : List Value} {cap : Nat}, x = .slice base xs.length cap → Row μ w xs ei.size olds →
      (Builtin.firstCells ei.size xs.length (.slice base xs.length cap)).run P w.drew = .ok olds.toArray w.drew → cap < xs.length + ys.length → xs.length + ys.length ≤ big →
      K (.slc true (xs ++ ys) (.own σ.toks.length)) { σ with toks := σ.toks ++ [xs.length + ys.length], tts := σ.tts ++ [e] } → Snd μ w ((do pure (Next.value (← Builtin.append_ #[t, tx] ty #[x, y])) : Sem Next).run P w) K := by
    intro base xs olds cap ex hr hold hg hbig hk
    have hrun := run_append_grow_src (P := P) w t tx ty e ei z ht hi hz base xs.length cap olds hold y ys.length news hsrc hg (by unfold big at hbig; omega) (fit hg hbig)
    rw [← ex] at hrun
    have hge := grownCap_ge w (xs.length + ys.length) cap e
    generalize hcap : grownCap w (xs.length + ys.length) cap e = cap' at hrun hge
    have hrow2 := hr.append hrow
    generalize hC : (olds ++ news).toArray ++ Builtin.zeroCells z.cells (cap' - (xs.length + ys.length)) = C at hrun
    have hreld := hrel.drew
    have hrel1 := hreld.alloc (.cells C e) ((xs.length + ys.length) * ei.size)
    have hev1 := (Ev.drew μ w).trans (Ev.alloc hreld (.cells C e) ((xs.length + ys.length) * ei.size))
    have hs1 : (w.drew.alloc (.cells C e)).heap.size = w.heap.size + 1 := Array.size_push ..
    have hrel2 := hrel1.addT (b := w.heap.size) (off := 0) (sz := ei.size) (len := xs.length + ys.length) (by rw [hev1.base]; exact hrel.base) (by rw [hs1]; omega) (by simp [Mem.prot, hsz])
      (fun o ho e => by have := hrel.ob_lt ho; have e' : μ.ob o = w.heap.size := e; omega) (fun t ht e => by have := (hrel.tok t ht).2.1; have e' : (μ.tk t).1 = w.heap.size := e; omega)
      (fun r hr e => by have := hrel.mb_lt hr; have e' : μ.mb r = w.heap.size := e; omega) e
    have hev2 := hev1.trans (Ev.addT (μ.prot w.heap.size ((xs.length + ys.length) * ei.size)) (w.drew.alloc (.cells C e)) e (w.heap.size, 0, ei.size) (xs.length + ys.length))
    have htl : μ.tl.length = σ.toks.length := by rw [hrel.tl]
    have hval := grown_row (μ' := (μ.prot w.heap.size ((xs.length + ys.length) * ei.size)).addT e (w.heap.size, 0, ei.size) (xs.length + ys.length)) (e := e) hrel hrow2 hzs (cap := cap') (by simpa using hge) σ.toks.length
      (by rw [List.length_append]; exact hC.symm) hev2 (by simp [Mem.addT, Mem.prot]) (by simp [Mem.addT, Mem.prot, htl])
      (by simp only [Mem.addT, Mem.prot, List.getD_eq_getElem?_getD, ← htl, List.getElem?_append_right (Nat.le_refl _), Nat.sub_self]; simp) (by simp [Mem.addT, Mem.prot, htl]) (by simp [Mem.addT, Mem.prot, htl])
    rw [List.length_append] at hval
    exact ⟨_, _, _, _, _, .inl (appRun hrun), hev2, hrel2, hval, hk⟩
  -- nothing comes
  have nothing : ∀ {base : Option Addr} {n cap : Nat}, x = .slice base n cap → n ≤ cap → ys = [] → K a σ → Snd μ w ((do pure (Next.value (← Builtin.append_ #[t, tx] ty #[x, y])) : Sem Next).run P w) K := by
    intro base n cap ex hle hys hk
    subst hys
    have hn : news = [] := by have := hrow.len; simpa using this
    subst hn
    have hrun := run_append_nothing (P := P) w t tx ty e ei ht hi base n cap hle y hsrc
    rw [← ex] at hrun
    exact Snd.val (u := x) (appRun hrun) hrel hx hk
  cases a with
  | slc nn xs tk =>
    cases nn with
    | false =>
      obtain ⟨hbig, h⟩ := h
      cases hx with
      | nils =>
        split at h
        · exact nothing rfl (Nat.le_refl _) ‹_› h
        · rename_i hne
          have hpos : 0 < ys.length := List.length_pos_iff.2 hne
          exact fresh (xs := []) (olds := []) (cap := 0) rfl (Row.nil _) (by simp [Builtin.firstCells]) (by simpa using hpos) (by simpa using hbig) (by simpa using h)
    | true =>
      cases tk with
      | no => exact h.elim
      | full =>
        obtain ⟨hxs, hbig, h⟩ := h
        obtain ⟨b, off, cap, us, ex, hr, hat, hpr, htk, hle, sz', htk'⟩ := hx.rowOf hxs (by intro _ h; cases h)
        have hcap : xs.length = cap := htk'
        split at h
        · exact nothing ex hle ‹_› h
        · rename_i hne
          have hpos : 0 < ys.length := List.length_pos_iff.2 hne
          exact fresh (olds := us) ex hr (run_firstCells_some w.drew ei.size xs.length ⟨b, off, none⟩ xs.length cap us hr.len (fun j v hv => by rw [Addr.add_mid]; exact hat j v hv)) (by omega) hbig h
      | own i =>
        obtain ⟨hxs, hne, hbig, htoks, htts, h⟩ := h
        obtain ⟨b, off, cap, us, ex, hr, hat, hpr, htk, hle, _⟩ := hx.rowOf hxs (by intro _ h; cases h)
        obtain ⟨k1, k2, k3⟩ := htk hne
        have hget : μ.tl.getD i 0 = xs.length := by rw [hrel.tl, List.getD_eq_getElem?_getD, htoks]; rfl
        obtain ⟨k4, k5, k6, kc, kf, k7, k8⟩ := k3 hget
        have hte : μ.tt i = e := hrel.tt i e htts
        have hfz : ∀ j, off + xs.length * ei.size ≤ j → w.frozen? ⟨b, j, none⟩ = false := fun j hj => by
          simp only [World.frozen?, k7]
          simp; omega
        obtain ⟨t1, t2, t3, t4⟩ := hrel.tok i k1
        rw [k4] at t1 t2 t3 t4
        simp only at t1 t2 t3 t4
        by_cases hroom : xs.length + ys.length ≤ cap
        · -- there is room
          have hmul : ∀ j, j < news.length → xs.length * ei.size + j < cap * ei.size := fun j hj => by
            rw [hrow.len] at hj
            have := Nat.mul_le_mul_right ei.size hroom
            rw [Nat.add_mul] at this
            omega
          have hcell : ∀ j, j < news.length → (w.cell? ⟨b, off + xs.length * ei.size + j, none⟩).isSome = true ∧ w.frozen? ⟨b, off + xs.length * ei.size + j, none⟩ = false := fun j hj => by
            have := k6 (xs.length * ei.size + j) (by omega) (hmul j hj)
            rw [← Nat.add_assoc] at this
            exact ⟨this, hfz _ (by omega)⟩
          have hrun := run_append_room_src (P := P) w t tx ty e ei ht hi b off xs.length cap y ys.length news hsrc hroom (fun j hj => (hcell j hj).1) (fun j hj => (hcell j hj).2)
          rw [← ex] at hrun
          have hev1 : Ev μ w μ (w.setCells b (off + xs.length * ei.size) news) := Ev.write hrel news t1 (by omega)
          have hrel1 : Rel μ σ (w.setCells b (off + xs.length * ei.size) news) := hrel.other hev1 (setCells_size b news _ w) (fun k hk => setCells_heap_ne w b news _ w hk) t1 t4 (fun r hr => by
            have := hrel.mt r i hr k1
            rw [k4] at this
            exact this)
          obtain ⟨hrel2, hev2⟩ := hrel1.raise (len := xs.length + ys.length) k1 k4 (by rw [hget]; omega)
          have hev := hev1.trans hev2
          have hrow2 := (hr.append hrow).mono hev
          refine ⟨_, _, _, _, _, .inl (appRun hrun), hev, hrel2, ?_, h⟩
          have hat2 : (w.setCells b (off + xs.length * ei.size) news).rangeAt b off (us ++ news) := fun j v hv => by
            by_cases hj : j < us.length
            · rw [List.getElem?_append_left hj] at hv
              rw [World.cell?_setCells_out b news _ w ⟨b, off + j, none⟩ (fun _ _ => .inl (by show off + j < _; rw [← hr.len]; omega))]
              exact hat j v hv
            · rw [List.getElem?_append_right (Nat.le_of_not_lt hj)] at hv
              have hlt : j - us.length < news.length := (List.getElem?_eq_some_iff.1 hv).1
              have := World.cell?_setCells_in b news (off + xs.length * ei.size) w (fun j hj => (hcell j hj).1) (j - us.length) hlt
              rw [show off + xs.length * ei.size + (j - us.length) = off + j by rw [← hr.len]; omega] at this
              rw [this, ← hv, List.getElem?_eq_getElem hlt]
          have hl2 : (us ++ news).length = (xs.length + ys.length) * ei.size := by rw [List.length_append, hr.len, hrow.len, Nat.add_mul]
          have hget' : ((μ.raise i b (off + (xs.length + ys.length) * ei.size) (xs.length + ys.length)).tl.getD i 0) = xs.length + ys.length := by
            simp only [Mem.raise]; exact getD_set_same k1
          have hval := RV.slc (μ := μ.raise i b (off + (xs.length + ys.length) * ei.size) (xs.length + ys.length)) (w := w.setCells b (off + xs.length * ei.size) news) (xs ++ ys) (.own i) b off cap ei.size (us ++ news) hrow2.size hrow2.len hat2
            (by rw [hl2]; simp [Mem.raise]) hrow2.one hrow2.el
            ⟨by simp only [Mem.raise, List.length_set]; exact k1, by rw [hget', List.length_append]; exact Nat.le_refl _, fun _ => ⟨k4, by simp [Mem.raise], fun j hj hj' => by
              have c1 := k6 j (by
                rw [List.length_append, Nat.add_mul] at hj
                omega) hj'
              exact World.isSome_setCells b news _ w _ c1, by
              obtain ⟨c', hc'⟩ := setCells_shape b news (off + xs.length * ei.size) w b kc _ kf k7
              exact ⟨c', kf, hc', by rw [List.length_append, Nat.add_mul]; omega⟩⟩⟩ (by rw [List.length_append]; exact hroom)
          rw [List.length_append] at hval
          exact hval
        · -- there is none
          have hg : cap < xs.length + ys.length := by omega
          have hpos : 0 < ys.length := by omega
          have hold : (Builtin.firstCells ei.size xs.length (.slice (some ⟨b, off, none⟩) xs.length cap)).run P w.drew = .ok us.toArray w.drew :=
            run_firstCells_some w.drew ei.size xs.length ⟨b, off, none⟩ xs.length cap us hr.len (fun j v hv => by rw [Addr.add_mid]; exact hat j v hv)
          have hrun := run_append_grow_src (P := P) w t tx ty e ei z ht hi hz (some ⟨b, off, none⟩) xs.length cap us hold y ys.length news hsrc hg (by unfold big at hbig; omega) (fit hg hbig)
          rw [← ex] at hrun
          have hge := grownCap_ge w (xs.length + ys.length) cap e
          generalize hcap : grownCap w (xs.length + ys.length) cap e = cap' at hrun hge
          have hrow2 := hr.append hrow
          generalize hC : (us ++ news).toArray ++ Builtin.zeroCells z.cells (cap' - (xs.length + ys.length)) = C at hrun
          have hreld := hrel.drew
          have hrel1 := hreld.alloc (.cells C e) ((xs.length + ys.length) * ei.size)
          have hev1 := (Ev.drew μ w).trans (Ev.alloc hreld (.cells C e) ((xs.length + ys.length) * ei.size))
          have hs1 : (w.drew.alloc (.cells C e)).heap.size = w.heap.size + 1 := Array.size_push ..
          have hk1 : i < (μ.prot w.heap.size ((xs.length + ys.length) * ei.size)).tl.length := k1
          have hlt1 : (μ.prot w.heap.size ((xs.length + ys.length) * ei.size)).tl.getD i 0 < xs.length + ys.length := by
            have : (μ.prot w.heap.size ((xs.length + ys.length) * ei.size)).tl.getD i 0 = xs.length := hget
            omega
          have hrel2 := hrel1.setT (i := i) (b := w.heap.size) (off := 0) (sz := ei.size) (len := xs.length + ys.length) hk1 hlt1 (by rw [hev1.base]; exact hrel.base) (by rw [hs1]; omega) (by simp [Mem.prot, hsz])
            (fun o ho e => by have := hrel.ob_lt ho; have e' : μ.ob o = w.heap.size := e; omega) (fun t ht e => by have := (hrel.tok t ht).2.1; have e' : (μ.tk t).1 = w.heap.size := e; omega)
            (fun r hr e => by have := hrel.mb_lt hr; have e' : μ.mb r = w.heap.size := e; omega)
          have hev2 := hev1.trans (Ev.setT (w := w.drew.alloc (.cells C e)) (t := (w.heap.size, 0, ei.size)) hk1 hlt1)
          have hval := grown_row (μ' := (μ.prot w.heap.size ((xs.length + ys.length) * ei.size)).setT i (w.heap.size, 0, ei.size) (xs.length + ys.length)) (e := e) hrel hrow2 hzs (cap := cap') (by simpa using hge) i
            (by rw [List.length_append]; exact hC.symm) hev2 (by simp [Mem.setT, Mem.prot]) (by simp only [Mem.setT, Mem.prot, List.length_set]; exact k1)
            (by rw [List.length_append]; simp only [Mem.setT, Mem.prot]; exact getD_set_same k1) (by simp [Mem.setT]) hte
          rw [List.length_append] at hval
          exact ⟨_, _, _, _, _, .inl (appRun hrun), hev2, hrel2, hval, h⟩
  | _ => exact h.elim

end
end Go.Vs

namespace Go.Vs
section
variable {P : Program} {m : Nat} {μ : Mem} {w : World} {fr : Fr} {ρ : Operand → Value} {σ : St} {K : V → St → Prop} {r : Result Next}

theorem snd_app {t tx ty e e' : TypeId} {ei : TypeInfo} {z : Value} {x y : Value} {a b : V} (ht : P.underlying t = some (.slice e)) (htx : P.underlying tx = some (.slice e')) (hi : P.info? e = some ei) (hz : ei.zero = some z)
    (hzs : z.cells.size = ei.size) (hby : ei.bytes ≤ 4096) (hx : RV μ w a x) (hy : RV μ w b y) (hrel : Rel μ σ w)
    (h : match (generalizing := false) b with | .slc _ ys _ => vapp e ei.size σ a ys K | _ => False) :
    Snd μ w ((do pure (Next.value (← Builtin.append_ #[t, tx] ty #[x, y])) : Sem Next).run P w) K := by
  split at h
  · rename_i nn ys tk
    have hsz : ∀ x ∈ ys, x.cells.length = ei.size := fun x hx => (h.1 x hx).1
    cases nn
    · cases hy; exact append_sound (news := []) ht hi hz hzs hby hx (Src.ofNil w htx 0) (Row.nil _) hrel h
    obtain ⟨ad, cap, us, ey, hr, hat, _⟩ := hy.rowAt hsz
    subst ey
    exact append_sound ht hi hz hzs hby hx (Src.ofSlice w htx ad ys.length cap us hr.len hat hr.one) hr hrel h
  · exact h.elim

theorem bytes_row (s : ByteArray) : Row μ w (bytesV s.data.toList) 1 (byteCells s) := by
  refine ⟨fun x hx => ?_, ?_, fun u hu => ?_, fun i hi j hj => ?_⟩
  · obtain ⟨b, _, rfl⟩ := List.mem_map.1 hx; rfl
  · simp [byteCells, bytesV]
  · obtain ⟨b, _, rfl⟩ := List.mem_map.1 hu; rfl
  · obtain rfl : j = 0 := by omega
    have hi' : i < s.data.toList.length := by simpa [bytesV] using hi
    have e1 : (bytesV s.data.toList).getD i .und = .int .u8 (s.data.toList[i].toNat : Int) := by
      rw [List.getD_eq_getElem?_getD]; simp [bytesV, List.getElem?_eq_getElem hi']
    have e2 : (byteCells s).getD (i * 1 + 0) undef = .int .u8 (s.data.toList[i].toNat : Int) := by
      rw [Nat.mul_one, Nat.add_zero, List.getD_eq_getElem?_getD]; simp [byteCells, List.getElem?_eq_getElem hi']
    rw [e1, e2]
    exact .int _ _

theorem snd_appS {t tx ty e : TypeId} {ei : TypeInfo} {x y : Value} {a b : V} (ht : P.underlying t = some (.slice e)) (htx : P.underlying tx = some .string) (hi : P.info? e = some ei) (hz : ei.zero = some (.int .u8 0))
    (hs : ei.size = 1) (hby : ei.bytes = 1) (hx : RV μ w a x) (hy : RV μ w b y) (hrel : Rel μ σ w) (h : match (generalizing := false) b with | .str s => vapp e 1 σ a (bytesV s) K | _ => False) :
    Snd μ w ((do pure (Next.value (← Builtin.append_ #[t, tx] ty #[x, y])) : Sem Next).run P w) K := by
  split at h
  · rename_i s
    obtain ⟨b, rfl, hb⟩ := hy.ofStr
    subst hb
    have hl : (bytesV b.data.toList).length = b.size := by simp [bytesV]
    have hsrc := Src.ofString (P := P) w htx b
    rw [← hl, ← hs] at hsrc
    have hrow := bytes_row (μ := μ) (w := w) b
    rw [← hs] at hrow h
    exact append_sound ht hi hz (by rw [hs]; rfl) (by omega) hx hsrc hrow hrel h
  · exact h.elim

theorem snd_store {t : TypeId} {i : TypeInfo} {x y : Value} {a b : V} (hi : P.info? t = some i) (hx : RV μ w a x) (hy : RV μ w b y) (hrel : Rel μ σ w)
    (h : match (generalizing := false) a with
      | .ref (some (o, off)) => (match σ.objs[o]? with
        | some cs => b.cells.length = i.size ∧ b.notTup = true ∧ off + i.size ≤ cs.length ∧ K .und { σ with objs := σ.objs.set o (spl cs off b.cells) }
        | none => False)
      | _ => False) :
    Snd μ w ((do Instr.storeAt t x y; pure Next.skip : Sem Next).run P w) K := by
  split at h
  · rename_i o off
    split at h
    · rename_i cs ho
      obtain ⟨h1, h2, h3, h⟩ := h
      have hon : o < μ.n := by rw [hrel.n]; exact (List.getElem?_eq_some_iff.1 ho).1
      obtain ⟨hb, hlt, hp, us, hr, hat, hf, hone⟩ := hrel.obj o cs ho
      obtain ⟨hrel2, hev⟩ := hrel.write (off := off) ho hy.cells (hy.cellsOne h2) (by rw [h1]; exact h3)
      have hsz : y.cells.size = i.size := by rw [← h1, hy.cells.1]; simp
      have hlen : y.cells.toList.length = i.size := by simpa using hsz
      have hst := run_storeCells_cells (P := P) (μ.ob o) off y.cells.toList 0 w (fun j hj => by
          have hj' : off + j < us.length := by rw [← hr.1]; omega
          have := hat (off + j) _ (List.getElem?_eq_getElem hj')
          rw [Nat.zero_add] at this
          rw [Nat.add_zero, this]; rfl) (fun j hj => hf _) (hy.cellsOne h2)
      rw [Nat.add_zero] at hst
      cases hx with
      | ref _ _ _ =>
        refine ⟨.und, _, undef, _, μ, .inr ⟨?_, rfl⟩, hev, hrel2, RV.mkTup (cs := []) (us := []) ⟨rfl, fun i hi => by simp at hi⟩, h⟩
        simp [Instr.storeAt, Instr.sureAddr, storeVar, sizeOf_run hi, hsz, hst]
    · exact h.elim
  · exact h.elim

theorem snd_slV {t e : TypeId} {ei : TypeInfo} {x : Value} {a : V} {lo hi : Option V} {lo' hi' : Option Value} (hu : P.underlying t = some (.slice e)) (he : P.info? e = some ei) (hx : RV μ w a x) (hrel : Rel μ σ w)
    (hl : ∀ a, lo = some a → ∃ u, lo' = some u ∧ RV μ w a u) (hl0 : lo = none → lo' = none) (hh : ∀ a, hi = some a → ∃ u, hi' = some u ∧ RV μ w a u) (hh0 : hi = none → hi' = none)
    (h : match (generalizing := false) a with
      | .slc true xs _ => (∀ y ∈ xs, y.cells.length = ei.size) ∧ vcut xs.length lo hi (cutVK K σ xs)
      | .slc false _ _ => vcut 0 lo hi (cutNK K σ)
      | _ => False) :
    Snd μ w ((do pure (Next.value (← Instr.sliceAt t x lo' hi' none)) : Sem Next).run P w) K := by
  split at h
  · rename_i xs tk
    obtain ⟨hxs, h⟩ := h
    by_cases hnil : xs = []
    · subst hnil
      obtain ⟨ad, cap, us, ex, _, _, hle⟩ := hx.rowAt (sz := ei.size) hxs
      subst ex
      obtain ⟨l, n, ec, h1, h2, h3⟩ := cut_run (P := P) (w := w) (isS := true) hl hl0 hh hh0 hle h
      have hn0 : n = 0 := by simpa using h2
      subst hn0
      have hl0' : l = 0 := by omega
      subst hl0'
      refine Snd.val (u := .slice (some ad) 0 cap) ?_ hrel (.slc0 ad cap) h3
      simp only [Instr.sliceAt, Instr.slice, Sem.run_bind, underlying_run hu, Result.andThen_ok, ec, sizeOf_run he, Nat.zero_mul]
      by_cases hc0 : cap = 0 <;> simp [hc0, Addr.add]
    obtain ⟨b, off, cap, us, ex, hr, hat, hpr, _, hle, _⟩ := hx.rowOf hxs (fun h => absurd h hnil)
    subst ex
    obtain ⟨l, n, ec, h1, h2, h3⟩ := cut_run (P := P) (w := w) (isS := true) hl hl0 hh hh0 hle h
    have hcl : (cut xs l n).length = n - l := by simp only [cut, List.length_drop, List.length_take]; omega
    have hmul : l * ei.size ≤ us.length := by rw [hr.len]; exact Nat.mul_le_mul_right _ (by omega)
    have hgetv : ∀ i, i < n - l → (cut xs l n).getD i .und = xs.getD (l + i) .und := fun i hi => by
      simp only [cut, List.getD_eq_getElem?_getD, List.getElem?_drop, List.getElem?_take]
      rw [if_pos (by omega)]
    have hnl : l * ei.size + (n - l) * ei.size = n * ei.size := by rw [← Nat.add_mul]; congr 1; omega
    have hnle : n * ei.size ≤ us.length := by rw [hr.len]; exact Nat.mul_le_mul_right _ h2
    have key : ∀ o, (o = off + l * ei.size ∨ (n - l = 0 ∧ o = off)) → RV μ w (.slc true (cut xs l n) .no) (.slice (some ⟨b, o, none⟩) (n - l) (cap - l)) := by
      intro o ho
      have hlen2 : ((us.drop (l * ei.size)).take ((n - l) * ei.size)).length = (n - l) * ei.size := by
        simp only [List.length_take, List.length_drop]; omega
      have := RV.slc (μ := μ) (w := w) (cut xs l n) .no b o (cap - l) ei.size ((us.drop (l * ei.size)).take ((n - l) * ei.size)) (fun x hx => hxs x (List.mem_of_mem_take (List.mem_of_mem_drop hx)))
        (by rw [hlen2, hcl]) (by
          rcases ho with rfl | ⟨h0, rfl⟩
          · exact rangeAt_take (rangeAt_drop hat _) _
          · rw [h0]
            intro j v hv
            simp at hv) (by
          rw [hlen2]
          rcases ho with rfl | ⟨h0, rfl⟩
          · omega
          · rw [h0, Nat.zero_mul]; omega) (fun u hu => hr.one u (List.mem_of_mem_drop (List.mem_of_mem_take hu))) (fun i hi j hj => by
          rw [hcl] at hi
          rw [hgetv i hi]
          have := hr.el (l + i) (by omega) j hj
          have e1 : ((us.drop (l * ei.size)).take ((n - l) * ei.size)).getD (i * ei.size + j) undef = us.getD ((l + i) * ei.size + j) undef := by
            have hlt : i * ei.size + j < (n - l) * ei.size := by
              have := Nat.mul_le_mul_right ei.size (show i + 1 ≤ n - l by omega)
              rw [Nat.succ_mul] at this; omega
            simp only [List.getD_eq_getElem?_getD, List.getElem?_take, if_pos hlt, List.getElem?_drop]
            rw [Nat.add_mul, Nat.add_assoc]
          rw [e1]
          exact this) trivial (by rw [hcl]; omega)
      rwa [hcl] at this
    by_cases hm : cap = l
    · refine Snd.val (u := .slice (some ⟨b, off, none⟩) (n - l) (cap - l)) ?_ hrel (key off (.inr ⟨by omega, rfl⟩)) h3
      simp only [Instr.sliceAt, Instr.slice, Sem.run_bind, underlying_run hu, Result.andThen_ok, ec, sizeOf_run he, if_pos hm, Sem.run_pure]
    · refine Snd.val (u := .slice (some ⟨b, off + l * ei.size, none⟩) (n - l) (cap - l)) ?_ hrel (key _ (.inl rfl)) h3
      simp [Instr.sliceAt, Instr.slice, underlying_run hu, ec, sizeOf_run he, hm, add_addr]
  · rename_i xs tk
    cases hx
    obtain ⟨l, n, ec, h1, h2, h3⟩ := cut_run (P := P) (w := w) (isS := true) hl hl0 hh hh0 (Nat.le_refl 0) h
    obtain rfl : l = 0 := by omega
    obtain rfl : n = 0 := by omega
    refine Snd.val (u := .slice none 0 0) ?_ hrel .nils h3
    simp [Instr.sliceAt, Instr.slice, underlying_run hu, ec, sizeOf_run he]
  · exact h.elim


/-! ### Bytes -/
theorem vbytes_eq : ∀ {xs : List V} {s : List UInt8}, vbytes xs = some s → xs = bytesV s
  | [], s, h => by simp only [vbytes, Option.some.injEq] at h; subst h; rfl
  | .int .u8 n :: r, s, h => by
    simp only [vbytes] at h
    split at h
    · rename_i hc
      simp only [Option.map_eq_some_iff] at h
      obtain ⟨s', hs', rfl⟩ := h
      have ih := vbytes_eq hs'
      simp only [bytesV, List.map_cons, ih]
      congr 1
      have : (n.toNat.toUInt8).toNat = n.toNat := by simp; omega
      rw [this]
      congr 1; omega
    · cases h
  | .int .i8 n :: r, s, h => by simp [vbytes] at h
  | .int .i16 n :: r, s, h => by simp [vbytes] at h
  | .int .i32 n :: r, s, h => by simp [vbytes] at h
  | .int .i64 n :: r, s, h => by simp [vbytes] at h
  | .int .u16 n :: r, s, h => by simp [vbytes] at h
  | .int .u32 n :: r, s, h => by simp [vbytes] at h
  | .int .u64 n :: r, s, h => by simp [vbytes] at h
  | .bool _ :: r, s, h => by simp [vbytes] at h
  | .str _ :: r, s, h => by simp [vbytes] at h
  | .agg _ :: r, s, h => by simp [vbytes] at h
  | .tup _ :: r, s, h => by simp [vbytes] at h
  | .slc _ _ _ :: r, s, h => by simp [vbytes] at h
  | .ref _ :: r, s, h => by simp [vbytes] at h
  | .gref _ _ :: r, s, h => by simp [vbytes] at h
  | .eptr _ :: r, s, h => by simp [vbytes] at h
  | .sptr _ _ :: r, s, h => by simp [vbytes] at h
  | .iface _ _ :: r, s, h => by simp [vbytes] at h
  | .nilI :: r, s, h => by simp [vbytes] at h
  | .fn _ _ _ :: r, s, h => by simp [vbytes] at h
  | .nilF :: r, s, h => by simp [vbytes] at h
  | .mp _ :: r, s, h => by simp [vbytes] at h

theorem bytes_cells {s : List UInt8} {us : List Value} (h : Row μ w (bytesV s) 1 us) : us = s.map fun b => Value.int .u8 (b.toNat : Int) := by
  apply List.ext_getElem
  · rw [h.len]; simp [bytesV]
  · intro i h1 h2
    have hi : i < s.length := by simpa using h2
    have := h.el i (by simpa [bytesV] using hi) 0 (by omega)
    rw [Nat.mul_one, Nat.add_zero] at this
    have e1 : (bytesV s).getD i .und = .int .u8 (s[i].toNat : Int) := by
      rw [List.getD_eq_getElem?_getD]; simp [bytesV, List.getElem?_eq_getElem hi]
    rw [e1] at this
    have e2 := this.ofInt
    rw [List.getD_eq_getElem?_getD, List.getElem?_eq_getElem h1] at e2
    simpa using e2

theorem foldl_push : ∀ (s : List UInt8) (acc : ByteArray), ((s.map fun b => (b.toNat : Int)).foldl (fun r n => r.push (UInt8.ofNat n.toNat)) acc).data.toList = acc.data.toList ++ s
  | [], acc => by simp
  | b :: s, acc => by
    simp only [List.map_cons, List.foldl_cons]
    rw [foldl_push s]
    simp [ByteArray.push]

theorem snd_cvBS {src dst e : TypeId} {x : Value} {a : V} (hs : P.underlying src = some (.slice e)) (he : P.underlying e = some (.int .u8)) (hd : P.underlying dst = some .string) (hx : RV μ w a x) (hrel : Rel μ σ w)
    (h : match (generalizing := false) a with
      | .slc false _ _ => K (.str []) σ
      | .slc true xs _ => (match vbytes xs with | some s => K (.str s) σ | none => False)
      | _ => False) : Snd μ w ((do pure (Next.value (← convert src dst x)) : Sem Next).run P w) K := by
  split at h
  · rename_i xs tk
    cases hx
    exact Snd.val (u := .string .empty) (by simp [convert, underlying_run hs, underlying_run hd, underlying_run he, Conv.bytesToString]) hrel (.str _) h
  · rename_i xs tk
    split at h
    · rename_i s hs'
      have hb := vbytes_eq hs'
      subst hb
      obtain ⟨ad, cap, us, ex, hr, hat, _⟩ := hx.rowAt (sz := 1) (fun x hx => by obtain ⟨b, _, rfl⟩ := List.mem_map.1 hx; rfl)
      subst ex
      have hus := bytes_cells hr
      have hl : us.length = (bytesV s).length := by rw [hr.len, Nat.mul_one]
      have hload : (loadCells ad (bytesV s).length).run P w = .ok us.toArray w := by
        rw [← hl]
        exact run_loadCells_list (P := P) w ad us hat
      rw [hus] at hload
      have hload' : (loadCells ad (bytesV s).length).run P w = .ok ((s.map fun b => (b.toNat : Int)).map (Value.int .u8)).toArray w := by
        rw [hload, List.map_map]; rfl
      have hrun := run_bytesToString (P := P) w ad (bytesV s).length cap _ hload'
      refine Snd.val (u := .string _) ?_ hrel (RV.mkStr _ _ ((foldl_push s .empty).trans (by simp))) h
      simp only [convert, Sem.run_bind, underlying_run hs, underlying_run hd, Result.andThen_ok, underlying_run he, hrun, Sem.run_pure]
    · exact h.elim
  · exact h.elim
end
end Go.Vs

namespace Go.Vs
section
variable {P : Program} {m : Nat} {μ : Mem} {w : World} {fr : Fr} {ρ : Operand → Value} {σ : St} {K : V → St → Prop} {r : Result Next}

theorem freeze_heap_ne (w : World) (a : Addr) (n k : Nat) (h : k ≠ a.block) : (w.freeze a n).heap[k]? = w.heap[k]? := by
  unfold World.freeze
  split
  · rfl
  · simp only [Array.getElem?_modify]; rw [if_neg (Ne.symm h)]

theorem freeze_size (w : World) (a : Addr) (n : Nat) : (w.freeze a n).heap.size = w.heap.size := by
  unfold World.freeze; split
  · rfl
  · simp

/-- A block that was just made, with a mark behind its end. -/
theorem freeze_new (w : World) (C : Array Value) (t : TypeId) :
    ((w.alloc (.cells C t)).freeze ⟨w.heap.size, C.size, none⟩ 1).heap[w.heap.size]? = some (.cells C t (C.size, C.size + 1)) := by
  unfold World.freeze
  rw [if_neg (by omega)]
  simp only [Array.getElem?_modify, if_true]
  rw [show (w.alloc (.cells C t)).heap[w.heap.size]? = some (.cells C t) from by show (w.heap.push _)[w.heap.size]? = _; simp]
  simp

theorem snd_cvSB {src dst e : TypeId} {x : Value} {a : V} (hs : P.underlying src = some .string) (hd : P.underlying dst = some (.slice e)) (he : P.underlying e = some (.int .u8)) (hx : RV μ w a x) (hrel : Rel μ σ w)
    (h : match (generalizing := false) a with | .str s => s.length ≤ big ∧ K (.slc true (bytesV s) .no) σ | _ => False) : Snd μ w ((do pure (Next.value (← convert src dst x)) : Sem Next).run P w) K := by
  split at h
  · rename_i s
    obtain ⟨_, h⟩ := h
    obtain ⟨b, rfl, hb⟩ := hx.ofStr
    subst hb
    have hl : (bytesV b.data.toList).length = b.size := by simp [bytesV]
    generalize hcap : (Question.appendCap b.size 0 e).cut (w.tape w.drawn (.appendCap b.size 0 e)) = cap
    have hge : b.size ≤ cap := by rw [← hcap]; exact Nat.le_add_right _ _
    generalize hC : (b.data.map fun b => Value.int .u8 b.toNat) ++ Array.replicate (cap - b.size) (.int .u8 0) = C
    have hCs : C.size = cap := by rw [← hC]; simp; omega
    have hreld := hrel.drew
    have hrel1 := hreld.alloc (.cells C e) (b.size * 1)
    have hev1 := (Ev.drew μ w).trans (Ev.alloc hreld (.cells C e) (b.size * 1))
    have hsz : (w.drew).heap.size = w.heap.size := rfl
    have hnew := freeze_new w.drew C e
    have hold : (w.drew.alloc (.cells C e)).heap[w.heap.size]? = some (.cells C e) := by
      show (w.heap.push _)[w.heap.size]? = _; simp
    have hcell : ∀ k j, ((w.drew.alloc (.cells C e)).freeze ⟨w.drew.heap.size, C.size, none⟩ 1).cell? ⟨k, j, none⟩ = (w.drew.alloc (.cells C e)).cell? ⟨k, j, none⟩ := fun k j => by
      by_cases e0 : k = w.heap.size
      · subst e0
        simp only [World.cell?]
        rw [show w.heap.size = w.drew.heap.size from rfl] at hold ⊢
        rw [hnew, hold]
      · exact cell_of_heap (freeze_heap_ne _ _ _ _ e0) j
    have hlow : ∀ k, k < w.heap.size → ((w.drew.alloc (.cells C e)).freeze ⟨w.drew.heap.size, C.size, none⟩ 1).heap[k]? = w.heap[k]? := fun k hk => by
      rw [freeze_heap_ne _ _ _ _ (by show k ≠ w.heap.size; omega)]
      exact heap_alloc_lt w.drew _ hk
    have hev : Ev μ w (μ.prot w.heap.size (b.size * 1)) ((w.drew.alloc (.cells C e)).freeze ⟨w.drew.heap.size, C.size, none⟩ 1) := by
      refine ⟨rfl, rfl, by rw [freeze_size]; exact hev1.size, fun k hk => ?_, fun k j hj => (hcell k j).trans (hev1.cell k j hj), hev1.pr, fun k j hj => by rw [hcell]; exact hev1.there k j hj, Nat.le_refl _, fun _ _ => rfl,
        Nat.le_refl _, fun _ _ => rfl, Nat.le_refl _, hev1.tk, ?_, ?_, ?_, fun k c e' f hc => ?_, fun _ _ => rfl⟩
      · have hb := hrel.base
        exact hlow k (by omega)
      · unfold World.freeze; rw [if_neg (by omega)]; rfl
      · unfold World.freeze; rw [if_neg (by omega)]; rfl
      · unfold World.freeze; rw [if_neg (by omega)]; rfl
      · exact ⟨c, f, by rw [hlow k (Array.getElem?_eq_some_iff.1 hc).1]; exact hc, fun _ _ h => h⟩
    have hrel2 : Rel (μ.prot w.heap.size (b.size * 1)) σ ((w.drew.alloc (.cells C e)).freeze ⟨w.drew.heap.size, C.size, none⟩ 1) :=
      hrel.grow hev hlow rfl rfl rfl (fun _ _ => rfl) (fun b hb => by simp only [Mem.prot]; rw [if_neg (by omega)]) (fun k hk => by
        rw [freeze_size, show (w.drew.alloc (.cells C e)).heap.size = w.heap.size + 1 from Array.size_push ..] at hk
        simp only [Mem.prot]
        rw [if_neg (by omega)]
        exact hrel.past k (by omega))
    have hrow := (bytes_row (μ := μ) (w := w) b).mono hev
    have hat : (w.drew.alloc (.cells C e)).rangeAt w.heap.size 0 (byteCells b) := fun j v hv => by
      have hj : j < (byteCells b).length := (List.getElem?_eq_some_iff.1 hv).1
      refine range_alloc w.drew C e j v ?_
      rw [← hC]
      simp only [Array.toList_append]
      rw [List.getElem?_append_left (by simpa [byteCells] using hj), ← hv]
      simp [byteCells]
    have hval := RV.slc (μ := μ.prot w.heap.size (b.size * 1)) (w := (w.drew.alloc (.cells C e)).freeze ⟨w.drew.heap.size, C.size, none⟩ 1) (bytesV b.data.toList) .no w.heap.size 0 cap 1 (byteCells b) hrow.size hrow.len
      (fun j v hv => by rw [hcell]; exact hat j v hv) (by rw [byteCells_length]; simp [Mem.prot]) hrow.one hrow.el trivial (by rw [hl]; exact hge)
    rw [hl] at hval
    refine ⟨_, σ, _, _, _, .inl ?_, hev, hrel2, hval, h⟩
    have hshape : ((w.drew.alloc (.cells C e)).shape? w.heap.size) = some (e, C.size) := by
      simp only [World.shape?]
      rw [hold]
    simp only [convert, Sem.run_bind, underlying_run hs, underlying_run hd, Result.andThen_ok, underlying_run he, Conv.stringToBytes, run_choose, Question.forced, Bool.false_eq_true, if_false, hcap, newRow, run_newObj_alloc, hC, Sem.run_pure,
      markStringish, run_shape]
    rw [show ({ w with drawn := w.drawn + 1 } : World) = w.drew from rfl]
    rw [hshape]
    rfl
  · exact h.elim


/-! ### Maps -/
theorem snd_mkM {t k e : TypeId} (_hu : P.underlying t = some (.map k e)) (hrel : Rel μ σ w) (h : K (.mp (some σ.maps.length)) { σ with maps := σ.maps ++ [[]] }) :
    Snd μ w ((do pure (Next.value (← Instr.makeMap t none)) : Sem Next).run P w) K := by
  have hrel1 := hrel.alloc (.map #[] 0) 0
  have hev1 := Ev.alloc hrel (.map #[] 0) 0
  have hold : (w.alloc (.map #[] 0)).heap[w.heap.size]? = some (.map #[] 0) := by
    show (w.heap.push _)[w.heap.size]? = _; simp
  have hrel2 := hrel1.addM (b := w.heap.size) (by rw [hev1.base]; exact hrel.base) hold (fun r hr e => by have := hrel.mb_lt hr; have e' : μ.mb r = w.heap.size := e; omega)
    (fun o ho e => by have := hrel.ob_lt ho; have e' : μ.ob o = w.heap.size := e; omega) (fun t ht e => by have := (hrel.tok t ht).2.1; have e' : (μ.tk t).1 = w.heap.size := e; omega)
  have hn : (μ.prot w.heap.size 0).nm = σ.maps.length := hrel1.nm
  have hv := RV.mp (μ := (μ.prot w.heap.size 0).addM w.heap.size) (w := w.alloc (.map #[] 0)) σ.maps.length (by simp [Mem.addM, hn])
  refine ⟨_, _, .map (some w.heap.size), _, _, .inl ?_, hev1.trans (Ev.addM _ _ _), hrel2, ?_, h⟩
  · simp [Instr.makeMap]
  · simpa [Mem.addM, hn] using hv

/-- Entries, place by place. -/
def Ents (μ : Mem) (w : World) (es : List (V × V)) (us : List MapEntry) : Prop :=
  us.length = es.length ∧ ∀ (j : Nat) (k v : V) (e : MapEntry), es[j]? = some (k, v) → us[j]? = some e → RV μ w k e.key ∧ RV μ w v e.val

theorem Ents.tail {p : V × V} {es : List (V × V)} {u : MapEntry} {us : List MapEntry} (h : Ents μ w (p :: es) (u :: us)) : Ents μ w es us :=
  ⟨by simpa using h.1, fun j k v e hj he => h.2 (j + 1) k v e (by simpa using hj) (by simpa using he)⟩

theorem byteArray_beq (b b' : ByteArray) : (b == b') = (b.data.toList == b'.data.toList) := by
  cases b with
  | mk a =>
    cases b' with
    | mk a' =>
      show (a == a') = _
      cases a; cases a'
      simp

theorem sameNow_sound {D : TypeDesc} {q : KQ} (hq : keyKind D = some q) {k k' : V} {u u' : Value} (hk : RV μ w k u) (hk' : RV μ w k' u') (h : k.isK q = true) (hkin : V.kin k k' = true) :
    Instr.sameNow D u u' = some (V.same k k') := by
  cases D <;> simp only [keyKind, Option.some.injEq, reduceCtorEq] at hq <;> subst hq
  case bool =>
    cases k <;> simp only [V.isK, Bool.false_eq_true] at h
    cases k' <;> simp only [V.kin, Bool.false_eq_true] at hkin
    rw [hk.ofBool, hk'.ofBool]; rfl
  case int kk =>
    cases k <;> simp only [V.isK, Bool.false_eq_true] at h
    cases k' <;> simp only [V.kin, Bool.false_eq_true, beq_iff_eq] at hkin
    subst hkin
    rw [hk.ofInt, hk'.ofInt]; simp [Instr.sameNow, V.same]
  case string =>
    cases k <;> simp only [V.isK, Bool.false_eq_true] at h
    cases k' <;> simp only [V.kin, Bool.false_eq_true] at hkin
    obtain ⟨b, rfl, hb⟩ := hk.ofStr
    obtain ⟨b', rfl, hb'⟩ := hk'.ofStr
    simp only [Instr.sameNow, V.same, Option.some.injEq]
    subst hb hb'
    exact byteArray_beq b b'

theorem findNow_sound {D : TypeDesc} {q : KQ} (hq : keyKind D = some q) {k : V} {u : Value} (hk : RV μ w k u) (h : k.isK q = true) : ∀ (es : List (V × V)) (us : List MapEntry) (i : Nat), Ents μ w es us → (∀ e ∈ es, V.kin k e.1 = true) →
    (mfind k es = none ∧ mput k .und es = es ++ [(k, .und)] ∧ (∀ v, mput k v es = es ++ [(k, v)]) ∧ Instr.findNow D u us i = some none) ∨
    (∃ j k' v x e, es[j]? = some (k', v) ∧ us[j]? = some e ∧ e.val = x ∧ RV μ w v x ∧ V.same k k' = true ∧ RV μ w k' e.key ∧ mfind k es = some v ∧ (∀ v', mput k v' es = es.set j (k, v')) ∧ Instr.findNow D u us i = some (some (i + j, x)))
  | [], us, i, hE, _ => by
    have : us = [] := by simpa using hE.1
    subst this
    exact .inl ⟨rfl, rfl, fun _ => rfl, rfl⟩
  | (k', v) :: es, [], i, hE, _ => by have := hE.1; simp at this
  | (k', v) :: es, e :: us, i, hE, hkin => by
    obtain ⟨h1, h2⟩ := hE.2 0 k' v e rfl rfl
    have hs := sameNow_sound hq hk h1 h (hkin _ List.mem_cons_self)
    cases hsame : V.same k k' with
    | true =>
      refine .inr ⟨0, k', v, e.val, e, rfl, rfl, rfl, h2, hsame, h1, by simp [mfind, hsame], fun v' => by simp [mput, hsame], ?_⟩
      simp [Instr.findNow, hs, hsame]
    | false =>
      rcases findNow_sound hq hk h es us (i + 1) hE.tail (fun x hx => hkin x (List.mem_cons_of_mem _ hx)) with ⟨g1, g2, g3, g4⟩ | ⟨j, k2, v2, x, e2, g1, g2, g3, g4, g5, g6, g7, g8, g9⟩
      · exact .inl ⟨by simp [mfind, hsame, g1], by simp [mput, hsame, g2], fun v' => by simp [mput, hsame, g3], by simp [Instr.findNow, hs, hsame, g4]⟩
      · refine .inr ⟨j + 1, k2, v2, x, e2, by simpa using g1, by simpa using g2, g3, g4, g5, g6, by simp [mfind, hsame, g7], fun v' => by simp [mput, hsame, g8], ?_⟩
        simp [Instr.findNow, hs, hsame, g9]
        omega

theorem checkKey_run {kt : TypeId} {D : TypeDesc} {q : KQ} (hu : P.underlying kt = some D) (hq : keyKind D = some q) (b : Bool) (u : Value) (n : Nat) : (Instr.checkKey b (n + 1) kt u).run P w = .ok () w := by
  cases D <;> simp only [keyKind, reduceCtorEq] at hq <;> simp [Instr.checkKey, underlying_run hu]

theorem ents_of {r : Nat} {es : List (V × V)} (hrel : Rel μ σ w) (hr : σ.maps[r]? = some es) : ∃ (cl : Nat) (us : Array MapEntry), w.heap[μ.mb r]? = some (.map us cl) ∧ Ents μ w es us.toList := by
  obtain ⟨_, cl, us, h2, h3, h4⟩ := hrel.map r es hr
  exact ⟨cl, us, h2, by simpa using h3, fun j k v e hj he => h4 j k v e hj (by simpa using he)⟩

theorem getObj_run {r : Nat} {us : Array MapEntry} {cl : Nat} (h : w.heap[r]? = some (.map us cl)) : (getObj r).run P w = .ok (.map us cl) w := by
  simp only [getObj, Sem.run, h]

theorem snd_lenM {t ty k e : TypeId} {x : Value} {a : V} (hu : P.underlying t = some (.map k e)) (hx : RV μ w a x) (hrel : Rel μ σ w)
    (h : match (generalizing := false) a with | .mp none => K (.int .i64 0) σ | .mp (some r) => (match σ.maps[r]? with | some es => K (.int .i64 es.length) σ | none => False) | _ => False) :
    Snd μ w ((do pure (Next.value (← Builtin.len_ #[t] ty #[x])) : Sem Next).run P w) K := by
  split at h
  · skip; cases hx
    exact Snd.val (u := .int .i64 0) (by simp [Builtin.len_, underlying_run hu, goInt]) hrel (.int _ _) h
  · rename_i r
    split at h
    · rename_i es hr
      obtain ⟨cl, us, h2, h3⟩ := ents_of hrel hr
      cases hx
      have hs : us.size = es.length := by simpa using h3.1
      exact Snd.val (u := .int .i64 es.length) (by simp [Builtin.len_, underlying_run hu, goInt, getObj_run h2, hs]) hrel (.int _ _) h
    · exact h.elim
  · exact h.elim

theorem snd_look {t k e : TypeId} {D : TypeDesc} {q : KQ} {ei : TypeInfo} {z : Value} {zv : V} {ok : Bool} {x y : Value} {a b : V} (hu : P.underlying t = some (.map k e)) (hkd : P.underlying k = some D) (hq : keyKind D = some q)
    (hi : P.info? e = some ei) (hz : ei.zero = some z) (hzv : cval z = some zv) (hx : RV μ w a x) (hy : RV μ w b y) (hrel : Rel μ σ w)
    (h : b.isK q = true ∧ match (generalizing := false) a with
      | .mp none => K (if ok then .tup [zv, .bool false] else zv) σ
      | .mp (some r) => (match σ.maps[r]? with
        | some es => (∀ e ∈ es, V.kin b e.1 = true) ∧ (match mfind b es with
          | some v => K (if ok then .tup [v, .bool true] else v) σ
          | none => K (if ok then .tup [zv, .bool false] else zv) σ)
        | none => False)
      | _ => False) : Snd μ w ((do pure (Next.value (← Instr.lookup t x y ok)) : Sem Next).run P w) K := by
  obtain ⟨hb, h⟩ := h
  have hzr : RV μ w zv z := cval_sound hzv
  have out : ∀ {v : V} {u : Value} (f : Bool), RV μ w v u → RV μ w (if ok then .tup [v, .bool f] else v) (if ok then .tuple #[u, .bool f] else u) := fun f hv => by
    cases ok
    · exact hv
    · exact RV.mkTup (us := [_, _]) (RVs.append (RVs.single hv) (RVs.single (.bool f)))
  split at h
  · skip; cases hx
    refine Snd.val (u := if ok then .tuple #[z, .bool false] else z) ?_ hrel (out false hzr) h
    have hfn : Instr.findNow D y [] 0 = some none := rfl
    simp [Instr.lookup, underlying_run hu, checkKey_run hkd hq, Instr.findKey, underlying_run hkd, hfn, zeroValue_run hi hz]
  · rename_i r
    split at h
    · rename_i es hr
      obtain ⟨hkin, h⟩ := h
      obtain ⟨cl, us, h2, h3⟩ := ents_of hrel hr
      cases hx
      rcases findNow_sound hq hy hb es us.toList 0 h3 hkin with ⟨g1, g2, g3, g4⟩ | ⟨j, k2, v2, x, e2, g1, g2, g3, g4, g5, g6, g7, g8, g9⟩
      · rw [g1] at h
        refine Snd.val (u := if ok then .tuple #[z, .bool false] else z) ?_ hrel (out false hzr) h
        simp [Instr.lookup, underlying_run hu, getObj_run h2, checkKey_run hkd hq, Instr.findKey, underlying_run hkd, g4, zeroValue_run hi hz]
      · rw [g7] at h
        refine Snd.val (u := if ok then .tuple #[x, .bool true] else x) ?_ hrel (out true g4) h
        simp [Instr.lookup, underlying_run hu, getObj_run h2, checkKey_run hkd hq, Instr.findKey, underlying_run hkd, g9]
    · exact h.elim
  · exact h.elim

theorem sameBits_same {q : KQ} {k k' : V} {u u' : Value} (hk : RV μ w k u) (hk' : RV μ w k' u') (h : k.isK q = true) (hkin : V.kin k k' = true) (hs : V.same k k' = true) (n : Nat) : Instr.sameBits n u' u = true := by
  cases k <;> (try (cases q <;> cases h; done)) <;> cases k' <;> simp only [V.kin, Bool.false_eq_true, beq_iff_eq] at hkin <;> simp only [V.same, beq_iff_eq] at hs
  · subst hs; rw [hk.ofBool, hk'.ofBool]; cases n <;> simp [Instr.sameBits]
  · subst hkin; subst hs; rw [hk.ofInt, hk'.ofInt]; cases n <;> simp [Instr.sameBits]
  · subst hs
    obtain ⟨b, rfl, hb⟩ := hk.ofStr
    obtain ⟨b', rfl, hb'⟩ := hk'.ofStr
    have : b = b' := by cases b; cases b'; simp only at hb hb'; congr 1; exact Array.ext' (hb.trans hb'.symm)
    subst this
    have hbb : (b == b) = true := by rw [byteArray_beq]; simp
    cases n <;> simp [Instr.sameBits, hbb]

end
end Go.Vs

namespace Go.Vs
section
variable {P : Program} {m : Nat} {μ : Mem} {w : World} {fr : Fr} {ρ : Operand → Value} {σ : St} {K : V → St → Prop} {r : Result Next}

def setM (w : World) (b : Nat) (us : Array MapEntry) (cl : Nat) : World := { w with heap := w.heap.setIfInBounds b (.map us cl) }

theorem setM_ne (w : World) (b : Nat) (us : Array MapEntry) (cl k : Nat) (h : k ≠ b) : (setM w b us cl).heap[k]? = w.heap[k]? := by
  simp only [setM]; rw [Array.getElem?_setIfInBounds_ne (Ne.symm h)]

theorem Ev.setM (hrel : Rel μ σ w) {b cl0 : Nat} {us0 : Array MapEntry} (h : w.heap[b]? = some (.map us0 cl0)) (us : Array MapEntry) (cl : Nat) (hb : μ.base ≤ b) : Ev μ w μ (setM w b us cl) := by
  have hlt : b < w.heap.size := by
    rcases Nat.lt_or_ge b w.heap.size with h' | h'
    · exact h'
    · rw [Array.getElem?_eq_none h'] at h; cases h
  have hnew : (Go.Vs.setM w b us cl).heap[b]? = some (.map us cl) := by simp [Go.Vs.setM, hlt]
  have hcell : ∀ k j, (Go.Vs.setM w b us cl).cell? ⟨k, j, none⟩ = w.cell? ⟨k, j, none⟩ := fun k j => by
    by_cases e : k = b
    · subst e; simp only [World.cell?, hnew, h]
    · exact cell_of_heap (setM_ne w b us cl k e) j
  exact ⟨rfl, rfl, by simp [Go.Vs.setM], fun k hk => setM_ne w b us cl k (by omega), fun k j _ => hcell k j, fun _ => Nat.le_refl _, fun k j hj => by rw [hcell]; exact hj,
    Nat.le_refl _, fun _ _ => rfl, Nat.le_refl _, fun _ _ => rfl, Nat.le_refl _, fun _ _ => ⟨Nat.le_refl _, fun _ => ⟨rfl, rfl⟩⟩, rfl, rfl, rfl, fun k c e f hc => ⟨c, f, by
      rw [setM_ne w b us cl k (fun e0 => by subst e0; rw [h] at hc; cases hc)]; exact hc, fun _ _ h => h⟩, fun _ _ => rfl⟩

theorem Rel.setM (hrel : Rel μ σ w) {r : Nat} {es es' : List (V × V)} (hr : σ.maps[r]? = some es) {us : Array MapEntry} {cl : Nat} (hE : Ents μ w es' us.toList) :
    Rel μ { σ with maps := σ.maps.set r es' } (setM w (μ.mb r) us cl) ∧ Ev μ w μ (setM w (μ.mb r) us cl) := by
  obtain ⟨hb, cl0, us0, h2, _⟩ := hrel.map r es hr
  have hrn : r < μ.nm := by rw [hrel.nm]; exact (List.getElem?_eq_some_iff.1 hr).1
  have hev := Ev.setM hrel h2 us cl hb
  have hne : ∀ k, k ≠ μ.mb r → (Go.Vs.setM w (μ.mb r) us cl).heap[k]? = w.heap[k]? := fun k hk => setM_ne w _ us cl k hk
  have hlt := hrel.mb_lt hrn
  have hsz : (Go.Vs.setM w (μ.mb r) us cl).heap.size = w.heap.size := by simp [Go.Vs.setM]
  refine ⟨?_, hev⟩
  constructor
  case n => exact hrel.n
  case nm => simp [hrel.nm]
  case tl => exact hrel.tl
  case base => rw [hsz]; exact hrel.base
  case past => intro b hb; rw [hsz] at hb; exact hrel.past b hb
  case glob =>
    intro g cs hg
    obtain ⟨k1, us', k2, k3, k4⟩ := hrel.glob g cs hg
    exact ⟨k1, us', k2.mono hev, range_of_heap (hne g (by omega)) k3, k4⟩
  case obj =>
    intro o cs ho
    obtain ⟨k1, k2, k3, us', k4, k5, k6, k7⟩ := hrel.obj o cs ho
    have hk := hne _ (Ne.symm (hrel.mo r o hrn (by rw [hrel.n]; exact (List.getElem?_eq_some_iff.1 ho).1)))
    exact ⟨k1, by rw [hsz]; exact k2, k3, us', k4.mono hev, range_of_heap hk k5, fun j => by rw [frozen_of_heap hk]; exact k6 j, k7⟩
  case inj => exact hrel.inj
  case map =>
    intro r' es'' hr'
    by_cases e : r' = r
    · subst e
      rw [List.getElem?_set_self (List.getElem?_eq_some_iff.1 hr).1] at hr'
      simp only [Option.some.injEq] at hr'
      subst hr'
      refine ⟨hb, cl, us, by simp [Go.Vs.setM, hlt], by simpa using hE.1, fun j k v e hj he => ?_⟩
      obtain ⟨g1, g2⟩ := hE.2 j k v e hj (by simpa using he)
      exact ⟨g1.mono hev, g2.mono hev⟩
    · rw [List.getElem?_set_ne (Ne.symm e)] at hr'
      obtain ⟨k1, cl', us', k2, k3, k4⟩ := hrel.map r' es'' hr'
      have hk : μ.mb r' ≠ μ.mb r := fun h => e (hrel.minj r' r (by rw [hrel.nm]; exact (List.getElem?_eq_some_iff.1 hr').1) hrn h)
      exact ⟨k1, cl', us', by rw [hne _ hk]; exact k2, k3, fun j k v e hj hu => ⟨(k4 j k v e hj hu).1.mono hev, (k4 j k v e hj hu).2.mono hev⟩⟩
  case minj => exact hrel.minj
  case tok => intro t ht; rw [hsz]; exact hrel.tok t ht
  case tinj => exact hrel.tinj
  case mo => exact hrel.mo
  case mt => exact hrel.mt
  case tys => exact hrel.tys
  case ty => exact fun o' e ho' => (hrel.ty o' e ho').mono hev
  case tts => exact hrel.tts
  case tt => exact hrel.tt

theorem snd_mset {t k e : TypeId} {D : TypeDesc} {q : KQ} {x y z : Value} {a b c : V} (hu : P.underlying t = some (.map k e)) (hkd : P.underlying k = some D) (hq : keyKind D = some q)
    (hx : RV μ w a x) (hy : RV μ w b y) (hz : RV μ w c z) (hrel : Rel μ σ w)
    (h : b.isK q = true ∧ match (generalizing := false) a with
      | .mp (some r) => (match σ.maps[r]? with
        | some es => (∀ e ∈ es, V.kin b e.1 = true) ∧ K .und { σ with maps := σ.maps.set r (mput b c es) }
        | none => False)
      | _ => False) : Snd μ w ((do Instr.mapUpdate t x y z; pure Next.skip : Sem Next).run P w) K := by
  obtain ⟨hb, h⟩ := h
  split at h
  · rename_i r
    split at h
    · rename_i es hr
      obtain ⟨hkin, h⟩ := h
      obtain ⟨cl, us, h2, h3⟩ := ents_of hrel hr
      have hlt : μ.mb r < w.heap.size := hrel.mb_lt (by rw [hrel.nm]; exact (List.getElem?_eq_some_iff.1 hr).1)
      have hset : ∀ (us' : Array MapEntry) (cl' : Nat), (setObj (μ.mb r) (.map us' cl')).run P w = .ok () (setM w (μ.mb r) us' cl') := fun us' cl' => by
        simp only [setObj, Sem.run, h2]; rfl
      cases hx
      rcases findNow_sound hq hy hb es us.toList 0 h3 hkin with ⟨g1, g2, g3, g4⟩ | ⟨j, k2, v2, x, e2, g1, g2, g3, g4, g5, g6, g7, g8, g9⟩
      · rw [g3] at h
        have hE : Ents μ w (es ++ [(b, c)]) (us.push { key := y, val := z, born := cl }).toList := by
          refine ⟨by simpa using h3.1, fun j k v e hj he => ?_⟩
          simp only [Array.toList_push] at he
          by_cases hjl : j < es.length
          · have hjl' : j < us.toList.length := by rw [h3.1]; exact hjl
            rw [List.getElem?_append_left hjl] at hj
            rw [List.getElem?_append_left hjl'] at he
            exact h3.2 j k v e hj he
          · have hl : us.toList.length = es.length := h3.1
            have hj0 : j = es.length := by
              have := (List.getElem?_eq_some_iff.1 hj).1
              simp at this; omega
            subst hj0
            rw [List.getElem?_append_right (Nat.le_refl _)] at hj
            rw [← hl, List.getElem?_append_right (Nat.le_refl _)] at he
            simp at hj he
            obtain ⟨rfl, rfl⟩ := hj
            subst he
            exact ⟨hy, hz⟩
        obtain ⟨hrel2, hev⟩ := hrel.setM (cl := cl + 1) hr hE
        refine ⟨.und, _, undef, _, μ, .inr ⟨?_, rfl⟩, hev, hrel2, RV.mkTup (cs := []) (us := []) ⟨rfl, fun i hi => by simp at hi⟩, h⟩
        simp [Instr.mapUpdate, underlying_run hu, getObj_run h2, checkKey_run hkd hq, Instr.findKey, underlying_run hkd, g4, hset]
      · rw [g8] at h
        have hE : Ents μ w (es.set j (b, c)) (us.modify j fun e => { e with key := y, val := z }).toList := by
          refine ⟨by simpa using h3.1, fun i k v e hj he => ?_⟩
          simp only [Array.toList_modify] at he
          rw [List.getElem?_modify] at he
          by_cases e0 : j = i
          · subst e0
            rw [List.getElem?_set_self (List.getElem?_eq_some_iff.1 g1).1] at hj
            rw [g2] at he
            simp at hj he
            obtain ⟨rfl, rfl⟩ := hj
            subst he
            exact ⟨hy, hz⟩
          · rw [List.getElem?_set_ne e0] at hj
            simp only [if_neg e0] at he
            exact h3.2 i k v e hj (by simpa using he)
        obtain ⟨hrel2, hev⟩ := hrel.setM (cl := cl) hr hE
        refine ⟨.und, _, undef, _, μ, .inr ⟨?_, rfl⟩, hev, hrel2, RV.mkTup (cs := []) (us := []) ⟨rfl, fun i hi => by simp at hi⟩, h⟩
        have hkin2 := hkin (k2, v2) (List.mem_of_getElem? g1)
        have hsb : Instr.sameBits 10000 e2.key y = true := sameBits_same hy g6 hb hkin2 g5 _
        have g2' : us[j]? = some e2 := by simpa using g2
        have hks : (Instr.keyThatStays (((us[0 + j]?).map (·.key)).getD y) y).run P w = .ok y w := by
          rw [Nat.zero_add, g2']
          simp only [Option.map_some, Option.getD_some, Instr.keyThatStays, hsb, if_true, Sem.run_pure]
        have hset' := hset (us.modify j fun e => { e with key := y, val := z }) cl
        simp only [Instr.mapUpdate, Sem.run_bind, underlying_run hu, Result.andThen_ok, getObj_run h2, checkKey_run hkd hq, Instr.findKey, underlying_run hkd, g9, Sem.run_pure, hks]
        rw [Nat.zero_add]
        simp only [hset', Result.andThen_ok, Sem.run_pure]
    · exact h.elim
  · exact h.elim

end
end Go.Vs

namespace Go.Vs
section
variable {P : Program} {m : Nat} {μ : Mem} {w : World} {fr : Fr} {ρ : Operand → Value} {σ : St} {K : V → St → Prop} {r : Result Next}

/-- What an object's block shows of its shape. -/
theorem Rel.shapeOf (hrel : Rel μ σ w) {o : Nat} {cs : List V} (ho : σ.objs[o]? = some cs) (hpos : 0 < cs.length) : ∃ e n, w.shape? (μ.ob o) = some (e, n) ∧ cs.length ≤ n ∧ ∀ e', σ.tys[o]? = some e' → e = e' := by
  obtain ⟨_, _, _, us, h4, h5, _⟩ := hrel.obj o cs ho
  have hlt : cs.length - 1 < us.length := by rw [← h4.1]; omega
  have hc := h5 (cs.length - 1) _ (List.getElem?_eq_getElem hlt)
  rw [Nat.zero_add] at hc
  simp only [World.cell?] at hc
  cases hb : w.heap[μ.ob o]? with
  | none => simp [hb] at hc
  | some ob =>
    cases ob with
    | cells c e f =>
      refine ⟨e, c.size, ?_, ?_, fun e' he' => ?_⟩
      · simp only [World.shape?, hb]
      · simp only [hb] at hc
        simp only [Option.isSome_none, Bool.false_eq_true, if_false] at hc
        have := (Array.getElem?_eq_some_iff.1 hc).1
        omega
      · obtain ⟨c', f', h⟩ := hrel.ty o e' he'
        rw [hb] at h
        cases h; rfl
    | _ => simp [hb] at hc

theorem snd_cvUP {src dst e : TypeId} {i : TypeInfo} {x : Value} {a : V} (hs : P.underlying src = some (.pointer e)) (hd : P.underlying dst = some .unsafePointer) (hi : P.info? e = some i) (hz : i.size ≠ 0) (hx : RV μ w a x) (hrel : Rel μ σ w)
    (h : match (generalizing := false) a with
      | .ref (some (o, 0)) => (match σ.objs[o]? with
        | some cs => 0 < cs.length ∧ K (.ref (some (o, 0))) σ
        | none => False)
      | .ref none => K (.ref none) σ
      | _ => False) : Snd μ w ((do pure (Next.value (← convert src dst x)) : Sem Next).run P w) K := by
  split at h
  · rename_i o
    split at h
    · rename_i cs ho
      obtain ⟨hpos, h⟩ := h
      obtain ⟨e', n, hsh, hn, _⟩ := hrel.shapeOf ho hpos
      cases hx with
      | ref _ _ hlt =>
        refine Snd.val (u := .pointer (some ⟨μ.ob o, 0, none⟩)) ?_ hrel (.ref o 0 hlt) h
        have h1 : (convert src dst (.pointer (some ⟨μ.ob o, 0, none⟩))).run P w = .ok (.pointer (some ⟨μ.ob o, 0, none⟩)) w := by
          have hn0 : n ≠ 0 := by omega
          simp [convert, underlying_run hs, underlying_run hd, Conv.unsafePointer, Conv.seenAt, viewAt, hsh, cellsIn, sizeOf_run hi, hz, hn0]
        simp [h1]
    · exact h.elim
  · cases hx
    refine Snd.val (u := .pointer none) ?_ hrel .nilp h
    have h1 : (convert src dst (.pointer none)).run P w = .ok (.pointer none) w := by
      simp [convert, underlying_run hs, underlying_run hd, Conv.unsafePointer]
    simp [h1]
  · exact h.elim

theorem liesAt_same {u : TypeId} {s : Nat} (hc : P.cellsOf u = s) (hs : s ≠ 0) (count off n : Nat) (ho : off % s = 0) (hn : off / s + n ≤ count) : liesAt P P.depth u count off u n = true := by
  have hd : P.depth = (2 * (P.types.size + Made.depth) + 1) + 1 := rfl
  rw [hd]
  simp only [liesAt, Bool.or_eq_true]
  left
  rw [hd]
  simp [rowAt, hc, hn, hs, ho, sameLayout]

theorem snd_cvPU {src dst u : TypeId} {i : TypeInfo} {x : Value} {a : V} (hs : P.underlying src = some .unsafePointer) (hd : P.underlying dst = some (.pointer u)) (hi : P.info? u = some i) (hz : i.size ≠ 0) (hx : RV μ w a x) (hrel : Rel μ σ w)
    (h : match (generalizing := false) a with
      | .ref (some (o, 0)) => (match σ.objs[o]? with
        | some cs => σ.tys[o]? = some u ∧ i.size ≤ cs.length ∧ K (.ref (some (o, 0))) σ
        | none => False)
      | .ref none => K (.ref none) σ
      | _ => False) : Snd μ w ((do pure (Next.value (← convert src dst x)) : Sem Next).run P w) K := by
  split at h
  · rename_i o
    split at h
    · rename_i cs ho
      obtain ⟨hty, hsz, h⟩ := h
      obtain ⟨e', n, hsh, hn, he⟩ := hrel.shapeOf ho (by omega)
      obtain rfl := he u hty
      cases hx with
      | ref _ _ hlt =>
        refine Snd.val (u := .pointer (some ⟨μ.ob o, 0, none⟩)) ?_ hrel (.ref o 0 hlt) h
        have hcells : P.cellsOf e' = i.size := by simp [Program.cellsOf, hi]
        have hl := liesAt_same (P := P) hcells hz (n / P.cellsOf e') 0 1 (Nat.zero_mod _) (by
          rw [hcells, Nat.zero_div, Nat.zero_add]
          exact (Nat.le_div_iff_mul_le (by omega)).2 (by omega))
        have h1 : (convert src dst (.pointer (some ⟨μ.ob o, 0, none⟩))).run P w = .ok (.pointer (some ⟨μ.ob o, 0, none⟩)) w := by
          simp [convert, underlying_run hs, underlying_run hd, Conv.unsafePointer, Conv.seenAt, viewAt, hsh, sizeOf_run hi, hz, variablesAt, hl]
        simp [h1]
    · exact h.elim
  · cases hx
    refine Snd.val (u := .pointer none) ?_ hrel .nilp h
    have h1 : (convert src dst (.pointer none)).run P w = .ok (.pointer none) w := by
      simp [convert, underlying_run hs, underlying_run hd, Conv.unsafePointer]
    simp [h1]
  · exact h.elim

theorem snd_eqP {op : BinOp} {xt e : TypeId} {i : TypeInfo} {x y : Operand} {a b : V} (neg : Bool) (ho : op = if neg then .neq else .eql) (hu : P.underlying xt = some (.pointer e)) (hi : P.info? e = some i) (hz : i.size ≠ 0)
    (hx : RV μ w a (ρ x)) (hy : RV μ w b (ρ y)) (hrel : Rel μ σ w)
    (h : match (generalizing := false) a, b with | .ref (some a), .ref (some b) => a = b ∧ K (.bool !neg) σ | _, _ => False) :
    Snd μ w ((do pure (Next.value (← (do eqGuard op xt x y (ρ x) (ρ y); binOp op xt (ρ x) (ρ y)))) : Sem Next).run P w) K := by
  split at h
  · rename_i a b
    obtain ⟨rfl, h⟩ := h
    obtain ⟨o, off⟩ := a
    generalize hux : ρ x = ux at hx
    generalize huy : ρ y = uy at hy
    cases hx
    cases hy
    refine Snd.val (v := _) (u := .bool !neg) ?_ hrel (.bool _) h
    have he := equal_of (P := P) (w := w) (t := xt) (x := .pointer (some ⟨μ.ob o, off, none⟩)) (y := .pointer (some ⟨μ.ob o, off, none⟩)) (r := .ok true w) (fun d => by
      simp [Op.equalIn, underlying_run hu, sizeOf_run hi, hz, sameAddr])
    cases neg <;> subst ho <;> simp [eqGuard, binOp, he]
  · exact h.elim

theorem snd_usd {ts : Array TypeId} {ty : TypeId} {x : Value} {a : V} (hx : RV μ w a x) (hrel : Rel μ σ w)
    (h : match (generalizing := false) a with
      | .slc false _ _ => K (.ref none) σ
      | .slc true xs (.own i) => (match σ.tts[i]? with
        | some e => σ.toks[i]? = some xs.length ∧ xs ≠ [] ∧ (∀ y ∈ xs, y.cells.length = 1 ∧ y.one = true) ∧ K (.sptr xs e) σ
        | none => False)
      | _ => False) : Snd μ w ((do pure (Next.value (← Builtin.unsafeSliceData_ ts ty #[x])) : Sem Next).run P w) K := by
  split at h
  · cases hx
    refine Snd.val (u := .pointer none) ?_ hrel .nilp h
    rw [Sem.run_bind, Lib.run_unsafeSliceData_nil]; rfl
  · rename_i xs i
    split at h
    · rename_i e he
      obtain ⟨htok, hne, hone, h⟩ := h
      obtain ⟨b, off, cap, us, rfl, hr, hat, hpr, htk, hle, _⟩ := hx.rowOf (sz := 1) (fun y hy => (hone y hy).1) (by intro _ h; cases h)
      obtain ⟨k1, k2, k3⟩ := htk hne
      have hget : μ.tl.getD i 0 = xs.length := by rw [hrel.tl, List.getD_eq_getElem?_getD, htok]; rfl
      obtain ⟨k0, _, _, c, f, k7, _⟩ := k3 hget
      have hpos : 0 < xs.length := List.length_pos_iff.2 hne
      refine Snd.val (u := .pointer (some ⟨b, off, none⟩)) ?_ hrel (.sptr xs e us b off (by rw [hr.len, Nat.mul_one]) hat hpr (by
        have := (hrel.tok i k1).1
        rw [k0] at this
        exact this) ⟨c, f, by rw [← hrel.tt i e he]; exact k7⟩ fun j hj => ?_) h
      · rw [Sem.run_bind, Lib.run_unsafeSliceData_row w ts ty _ _ _ (by omega)]; rfl
      · have := hr.el j hj 0 (by omega)
        rw [Nat.mul_one, Nat.add_zero] at this
        have hm : xs.getD j .und ∈ xs := by
          rw [List.getD_eq_getElem?_getD, List.getElem?_eq_getElem hj]; exact List.getElem_mem hj
        have h1 := (hone _ hm).2
        generalize xs.getD j .und = y at this h1
        cases y <;> first | exact this | cases h1
    · exact h.elim
  · exact h.elim

theorem freeze_shape (w : World) (a : Addr) (n : Nat) {b : Nat} {c : Array Value} {e : TypeId} {f : Nat × Nat} (h : w.heap[b]? = some (.cells c e f)) :
    ∃ f', (w.freeze a n).heap[b]? = some (.cells c e f') ∧ ∀ k, (b = a.block → a.off + n ≤ k) → f.2 ≤ k → f'.2 ≤ k := by
  unfold World.freeze
  split
  · exact ⟨f, h, fun _ _ h => h⟩
  · by_cases hb : a.block = b
    · obtain ⟨lo, hi⟩ := f
      refine ⟨if lo == hi then (a.off, a.off + n) else (min lo a.off, max hi (a.off + n)), by simp [Array.getElem?_modify, hb, h], fun k hk hf => ?_⟩
      have := hk hb.symm
      split
      · exact this
      · exact Nat.max_le.2 ⟨hf, this⟩
    · exact ⟨f, by simp [Array.getElem?_modify, hb, h], fun _ _ h => h⟩

/-- Protected cells, frozen. -/
theorem Ev.freeze (hrel : Rel μ σ w) {b off n : Nat} (hp : off + n ≤ μ.pr b) (hb : μ.base ≤ b) : Ev μ w μ (w.freeze ⟨b, off, none⟩ n) := by
  have hcell : ∀ k j, (w.freeze ⟨b, off, none⟩ n).cell? ⟨k, j, none⟩ = w.cell? ⟨k, j, none⟩ := fun k j => by
    cases hk : w.heap[k]? with
    | none =>
      have hk' : (w.freeze ⟨b, off, none⟩ n).heap[k]? = none := by
        have := freeze_size w ⟨b, off, none⟩ n
        rw [Array.getElem?_eq_none_iff] at hk ⊢
        omega
      simp only [World.cell?, hk, hk']
    | some o =>
      cases o with
      | cells c e f =>
        obtain ⟨f', h1, _⟩ := freeze_shape w ⟨b, off, none⟩ n hk
        simp only [World.cell?, hk, h1]
      | _ =>
        have h1 : (w.freeze ⟨b, off, none⟩ n).heap[k]? = w.heap[k]? := by
          unfold World.freeze
          split
          · rfl
          · by_cases e : b = k
            · simp [Array.getElem?_modify, e, hk]
            · simp [Array.getElem?_modify, e]
        exact cell_of_heap h1 j
  refine ⟨rfl, rfl, by rw [freeze_size]; exact Nat.le_refl _, fun k hk => freeze_heap_ne _ _ _ _ (by show k ≠ b; omega), fun k j _ => hcell k j, fun _ => Nat.le_refl _, fun k j hj => by rw [hcell]; exact hj, Nat.le_refl _, fun _ _ => rfl,
    Nat.le_refl _, fun _ _ => rfl, Nat.le_refl _, fun _ _ => ⟨Nat.le_refl _, fun _ => ⟨rfl, rfl⟩⟩, ?_, ?_, ?_, fun k c e f hc => ?_, fun _ _ => rfl⟩
  · unfold World.freeze; split <;> rfl
  · unfold World.freeze; split <;> rfl
  · unfold World.freeze; split <;> rfl
  · obtain ⟨f', h1, h2⟩ := freeze_shape w ⟨b, off, none⟩ n hc
    exact ⟨c, f', h1, fun k' hk' hf => h2 k' (fun e => by subst e; exact Nat.le_trans hp hk') hf⟩

theorem snd_ustr {u pt it ty : TypeId} {x y : Value} {a b : V} (hp : P.underlying pt = some (.pointer u)) (hc : P.cellsOf u = 1) (hx : RV μ w a x) (hy : RV μ w b y) (hrel : Rel μ σ w)
    (h : match (generalizing := false) a, b with
      | .ref none, .int .i64 n => n = 0 ∧ K (.str []) σ
      | .sptr cs e, .int .i64 n => (match vbytes cs with
        | some s => e = u ∧ n = s.length ∧ s.length ≤ big ∧ s ≠ [] ∧ K (.str s) σ
        | none => False)
      | _, _ => False) : Snd μ w ((do pure (Next.value (← Builtin.unsafeString_ #[pt, it] ty #[x, y])) : Sem Next).run P w) K := by
  split at h
  · obtain ⟨rfl, h⟩ := h
    cases hx
    cases hy
    refine Snd.val (u := .string .empty) ?_ hrel (.str .empty) h
    rw [Sem.run_bind, Lib.run_unsafeString_none]; rfl
  · rename_i cs e n
    split at h
    · rename_i s hs
      obtain ⟨rfl, rfl, hbig, hne, h⟩ := h
      have ecs := vbytes_eq hs
      subst ecs
      cases hy
      cases hx with
      | sptr _ _ us b off h1 h2 h3 h0 h4 h5 =>
        obtain ⟨c, f, hb⟩ := h4
        have hl : (bytesV s).length = s.length := by simp [bytesV]
        have hus : us = s.map fun b => Value.int .u8 (b.toNat : Int) := by
          refine bytes_cells (μ := μ) (w := w) ⟨fun x hx => ?_, by rw [← h1, Nat.mul_one], fun u hu => ?_, fun i hi j hj => ?_⟩
          · obtain ⟨b, _, rfl⟩ := List.mem_map.1 hx; rfl
          · obtain ⟨i, hi, rfl⟩ := List.getElem_of_mem hu
            have := h5 i (by rw [h1]; exact hi)
            rw [List.getD_eq_getElem?_getD, List.getD_eq_getElem?_getD, List.getElem?_eq_getElem hi, List.getElem?_eq_getElem (by rw [h1]; exact hi)] at this
            simp only [Option.getD_some, bytesV, List.getElem_map] at this
            rw [this.ofInt]; rfl
          · obtain rfl : j = 0 := by omega
            have := h5 i hi
            rw [Nat.mul_one, Nat.add_zero]
            have hm : (bytesV s).getD i .und ∈ bytesV s := by
              rw [List.getD_eq_getElem?_getD, List.getElem?_eq_getElem hi]; exact List.getElem_mem hi
            obtain ⟨b, _, hb⟩ := List.mem_map.1 hm
            rw [← hb] at this ⊢
            exact this
        have hsl : us.length = s.length := by rw [hus, List.length_map]
        have hcell : ∀ j x, s[j]? = some x → w.cell? ((⟨b, off, none⟩ : Addr).add j) = some (.int .u8 x.toNat) := fun j x hj => by
          rw [Addr.add_mid]
          exact h2 j _ (by rw [hus]; simp [hj])
        have hsz : off + s.length ≤ c.size := by
          have hpos : 0 < s.length := List.length_pos_iff.2 hne
          have := hcell (s.length - 1) _ (List.getElem?_eq_getElem (by omega))
          rw [Addr.add_mid] at this
          simp only [World.cell?, hb] at this
          simp only [Option.isSome_none, Bool.false_eq_true, if_false] at this
          have := (Array.getElem?_eq_some_iff.1 this).1
          omega
        have hlb := Lib.run_loadBytes (P := P) w s ⟨b, off, none⟩ .empty hcell
        have hlies := liesAt_same (P := P) (u := e) hc (by omega) (c.size / P.cellsOf e) off s.length (Nat.mod_one _) (by rw [hc, Nat.div_one, Nat.div_one]; exact hsz)
        have hsh : w.shape? b = some (e, c.size) := by simp only [World.shape?, hb]
        have h63' : ¬ (9223372036854775807 : Int) < (s.length : Int) := by unfold big at hbig; omega
        have hl0 : s.length ≠ 0 := by simpa using hne
        have hneg : ¬ (s.length : Int) < 0 := by omega
        have hmax : IntKind.i64.max = 9223372036854775807 := rfl
        have hev := Ev.freeze hrel (b := b) (off := off) (n := s.length) (by omega) h0
        have hpb : 0 < μ.pr b := by omega
        have hrel' : Rel μ σ (w.freeze ⟨b, off, none⟩ s.length) := hrel.other hev (b := b) (freeze_size _ _ _) (fun k hk => freeze_heap_ne _ _ _ _ hk) h0 (fun o ho e => by
            rw [hrel.n] at ho
            have := (hrel.obj o _ (List.getElem?_eq_getElem ho)).2.2.1
            rw [e] at this; omega) (fun r hr e => by
            rw [hrel.nm] at hr
            obtain ⟨_, cl, us, g2, _⟩ := hrel.map r _ (List.getElem?_eq_getElem hr)
            rw [e, hb] at g2; cases g2)
        refine ⟨_, σ, _, _, μ, .inl ?_, hev, hrel', .str ⟨s.toArray⟩, by simpa using h⟩
        conv in Builtin.unsafeString_ _ _ _ => whnf
        generalize IntKind.i64.max.decLt (s.length : Int) = dd
        cases dd with
        | isTrue h => exact absurd h (by rw [hmax]; exact h63')
        | isFalse _ => simp [hne, variablesAt, hsh, elemOf, underlying_run hp, hlies, hlb]
    · exact h.elim
  · exact h.elim

/-! ### Library functions without a body -/
def isExt (P : Program) (f : FuncId) (name : String) : Bool :=
  match P.funcs[f]? with
  | some fn => fn.name == name && fn.origin == "" && fn.body.isNone
  | none => false

def cext (P : Program) (m : Nat) (f : FuncId) (args : List Operand) : Option VOp :=
  match args with
  | [x] => if isExt P f "internal/abi.NoEscape" then (copd m x).map .mov else none
  | [x, y] => if isExt P f "internal/bytealg.IndexByteString" then do pure (.ixB (← copd m x) (← copd m y)) else none
  | _ => none

theorem noEscape_next {fn : Func} (h1 : fn.name = "internal/abi.NoEscape") (h2 : fn.origin = "") : Extern.findNext fn = none := by
  unfold Extern.findNext
  rw [h1, h2]
  kernel_rfl
theorem noEscape_find {fn : Func} (h1 : fn.name = "internal/abi.NoEscape") : Extern.find fn = some Extern.AbiNoEscape.same := by
  unfold Extern.find
  rw [h1]
  kernel_rfl
theorem ixByte_next {fn : Func} (h1 : fn.name = "internal/bytealg.IndexByteString") (h2 : fn.origin = "") : Extern.findNext fn = none := by
  unfold Extern.findNext
  rw [h1, h2]
  kernel_rfl
theorem ixByte_find {fn : Func} (h1 : fn.name = "internal/bytealg.IndexByteString") : Extern.find fn = some Extern.BytealgIndexByte.indexByte := by
  unfold Extern.find
  rw [h1]
  kernel_rfl

theorem ext_run {f : FuncId} {name : String} {e : Array Value → Sem Value} (h : isExt P f name = true) (hname : (name == "runtime.NumGoroutine") = false)
    (hn : ∀ fn : Func, fn.name = name → fn.origin = "" → Extern.findNext fn = none) (he : ∀ fn : Func, fn.name = name → Extern.find fn = some e) (args : Array Value) (w : World) :
    (callFunc f args).run P w = ((e args).run P w).andThen fun v w' => .ok (.value v) w' := by
  unfold isExt at h
  split at h
  · rename_i fn hfn
    simp only [Bool.and_eq_true, beq_iff_eq] at h
    obtain ⟨⟨h1, h2⟩, h3⟩ := h
    exact run_callFunc_extern hfn (by rw [h1]; exact hname) h3 (hn fn h1 h2) (he fn h1) args w
  · cases h

theorem cext_sound {f : FuncId} {args : List Operand} {vo : VOp} (hc : cext P m f args = some vo) (hrel : Rel μ σ w) (hρ : Ops m μ w fr ρ) (h : vop μ.G vo fr σ K) :
    Snd μ w ((callFunc f (args.map ρ).toArray).run P w) K := by
  unfold cext at hc
  split at hc
  · rename_i x
    split at hc
    · rename_i he
      simp only [Option.map_eq_some_iff] at hc
      obtain ⟨x', hx, rfl⟩ := hc
      refine Snd.val (u := ρ x) ?_ hrel (hρ _ _ hx) h
      rw [ext_run he (by decide) (fun _ => noEscape_next) (fun _ => noEscape_find)]
      rfl
    · cases hc
  · rename_i x y
    split at hc
    · rename_i he
      simp only [Option.bind_eq_bind, Option.bind_eq_some_iff, Option.pure_def, Option.some.injEq] at hc
      obtain ⟨x', hx, y', hy, rfl⟩ := hc
      have vx := hρ _ _ hx
      have vy := hρ _ _ hy
      simp only [vop] at h
      split at h
      · rename_i s n e1 e2
        rw [e1] at vx
        rw [e2] at vy
        obtain ⟨b, eb, hb⟩ := vx.ofStr
        subst hb
        refine Snd.val (u := .int .i64 (ixByte b.data.toList n)) ?_ hrel (.int _ _) h
        rw [ext_run he (by decide) (fun _ => ixByte_next) (fun _ => ixByte_find)]
        simp only [List.map_cons, List.map_nil, eb, vy.ofInt]
        rw [Lib.run_indexByteString]
        rfl
      · exact h.elim
    · cases hc
  · cases hc

end
end Go.Vs

namespace Go.Vs
section
variable {P : Program} {m : Nat} {μ : Mem} {w : World} {fr : Fr} {ρ : Operand → Value} {σ : St} {K : V → St → Prop} {r : Result Next}

theorem copdO_sound (hρ : Ops m μ w fr ρ) {x : Option Operand} {y : Option Opd} (h : copdO m x = some y) :
    (∀ a, y.map (·.ev fr) = some a → ∃ u, x.map ρ = some u ∧ RV μ w a u) ∧ (y.map (·.ev fr) = none → x.map ρ = none) := by
  cases x with
  | none =>
    simp only [copdO, Option.some.injEq] at h
    subst h
    exact ⟨fun a h => by simp at h, fun _ => rfl⟩
  | some x =>
    simp only [copdO, Option.map_eq_some_iff] at h
    obtain ⟨y', hy', rfl⟩ := h
    exact ⟨fun a h => ⟨ρ x, rfl, by simp at h; subst h; exact hρ x y' hy'⟩, fun h => by simp at h⟩

theorem isConst_q {d : TypeDesc} {q : NK} (_h : nilKind d = some q) : True := trivial

theorem notIface {d : TypeDesc} (h : ∀ ms, some d ≠ some (.interface ms)) : ∀ ms, d ≠ .interface ms := fun ms e => h ms (by rw [e])

theorem parts_sound {α : Type} (hρ : Ops m μ w fr ρ) (f : Nat → Option α) : ∀ {l : List (Nat × Operand)} {qs : List (α × Opd)},
    l.mapM (fun (p : Nat × Operand) => do pure ((← f p.1), (← copd m p.2))) = some qs →
    qs.length = l.length ∧ ∀ (i : Nat) (p : Nat × Operand) (q : α × Opd), l[i]? = some p → qs[i]? = some q → f p.1 = some q.1 ∧ RV μ w (q.2.ev fr) (ρ p.2)
  | [], qs, h => by
    simp only [List.mapM_nil, Option.pure_def, Option.some.injEq] at h
    subst h
    exact ⟨rfl, fun i p q hp => by simp at hp⟩
  | p :: l, qs, h => by
    simp only [List.mapM_cons, Option.bind_eq_bind, Option.bind_eq_some_iff, Option.pure_def, Option.some.injEq] at h
    obtain ⟨q, ⟨a, ha, b, hb, rfl⟩, r, hr, rfl⟩ := h
    obtain ⟨h1, h2⟩ := parts_sound hρ f (l := l) (qs := r) (by simpa only [Option.bind_eq_bind, Option.pure_def] using hr)
    refine ⟨by simp [h1], fun i p' q' hp hq => ?_⟩
    cases i with
    | zero =>
      simp only [List.getElem?_cons_zero, Option.some.injEq] at hp hq
      subst hp hq
      exact ⟨ha, hρ _ _ hb⟩
    | succ i => exact h2 i p' q' (by simpa using hp) (by simpa using hq)

theorem places_run (fs : List Field) (hfs : ∀ f ∈ fs, (P.info? f.type).isSome = true) : ((fs.mapM fun f => (do pure (f.offset, ← Go.sizeOf f.type) : Sem (Nat × Nat)))).run P w = .ok (fs.map fun f => (f.offset, P.cellsOf f.type)) w := by
  induction fs with
  | nil => rfl
  | cons f fs ih =>
    obtain ⟨i, hi⟩ := Option.isSome_iff_exists.1 (hfs f List.mem_cons_self)
    simp only [List.mapM_cons, Sem.run_bind, sizeOf_run hi, Result.andThen_ok, Sem.run_pure, ih fun x hx => hfs x (List.mem_cons_of_mem _ hx), List.map_cons]
    simp [Program.cellsOf, hi]

theorem build_parts (f : Nat → Option (Nat × Nat)) (hρ : Ops m μ w fr ρ) {ps : Array (Nat × Operand)} {qs : List ((Nat × Nat) × Opd)}
    (h : ps.toList.mapM (fun (p : Nat × Operand) => do pure ((← f p.1), (← copd m p.2))) = some qs) :
    (qs.map fun p => (p.1.1, p.1.2, p.2.ev fr)).length = (ps.map fun (i, x) => (i, ρ x)).toList.length ∧
    ∀ (i : Nat) (p : Nat × Nat × V) (q : Nat × Value), (qs.map fun p => (p.1.1, p.1.2, p.2.ev fr))[i]? = some p → (ps.map fun (i, x) => (i, ρ x)).toList[i]? = some q → f q.1 = some (p.1, p.2.1) ∧ RV μ w p.2.2 q.2 := by
  obtain ⟨h1, h2⟩ := parts_sound hρ f h
  refine ⟨by simp [h1], fun i p q hp hq => ?_⟩
  simp only [List.getElem?_map, Option.map_eq_some_iff, Array.toList_map] at hp hq
  obtain ⟨p', hp', rfl⟩ := hp
  obtain ⟨q', hq', rfl⟩ := hq
  exact h2 i q' p' hq' hp'

theorem seqParts_sound : ∀ (i : Nat) (l : List (Nat × Operand)), seqParts i l = true → ∀ (j : Nat) (p : Nat × Operand), l[j]? = some p → p.1 = i + j
  | _, [], _, j, p, hp => by simp at hp
  | i, (k, x) :: l, h, j, p, hp => by
    simp only [seqParts, Bool.and_eq_true, beq_iff_eq] at h
    cases j with
    | zero => simp at hp; subst hp; simp [h.1]
    | succ j =>
      have := seqParts_sound (i + 1) l h.2 j p (by simpa using hp)
      omega

theorem cop_move {dst type pos after guard} {x : Operand} {vo : VOp} (hc : (copd m x).map VOp.mov = some vo) (hrel : Rel μ σ w) (hρ : Ops m μ w fr ρ) (h : vop μ.G vo fr σ K) :
    Snd μ w ((execOp ρ ⟨dst, .move x, type, pos, after, guard⟩).run P w) K := by
  simp only [Option.map_eq_some_iff] at hc
  obtain ⟨x', hx, rfl⟩ := hc
  exact Snd.val rfl hrel (hρ _ _ hx) h

set_option maxHeartbeats 400000 in
theorem cop_bslc {dst : Option Tmp} {type : TypeId} {pos : String} {after : Array Edge} {guard : Option (Nat × Bool)} {t : TypeId} {len : Nat} {ps : Array (Nat × Operand)} {vo : VOp} (hc : cop P m ⟨dst, .buildSlice t len ps, type, pos, after, guard⟩ = some vo)
    (hrel : Rel μ σ w) (hρ : Ops m μ w fr ρ) (h : vop μ.G vo fr σ K) : Snd μ w ((execOp ρ ⟨dst, .buildSlice t len ps, type, pos, after, guard⟩).run P w) K := by
  simp only [cop] at hc
  split at hc
  · rename_i e hu
    simp only [Option.bind_eq_bind, Option.bind_eq_some_iff] at hc
    obtain ⟨ei, hei, z, hz, hc⟩ := hc
    split at hc
    · rename_i hcond
      simp only [Bool.and_eq_true, beq_iff_eq, decide_eq_true_eq] at hcond
      obtain ⟨⟨⟨⟨h1, h2⟩, h3⟩, h4⟩, h5⟩ := hcond
      simp only [Option.bind_eq_some_iff, Option.pure_def, Option.some.injEq] at hc
      obtain ⟨qs, hqs, rfl⟩ := hc
      have hqs' : (ps.toList.map (·.2)).mapM (copd m) = some qs := by rw [List.mapM_map]; exact hqs
      have hr := mapM_copd hρ hqs'
      have h' : (∀ x ∈ qs.map (fun y : Opd => y.ev fr), x.cells.length = ei.size ∧ x.notTup = true) ∧ K (.slc true (qs.map (fun y : Opd => y.ev fr)) .full) σ := h
      have hex : execOp ρ ⟨dst, .buildSlice t len ps, type, pos, after, guard⟩ = (do pure (Next.value (← Instr.buildSlice t len (ps.map fun p => (p.1, ρ p.2)))) : Sem Next) := by
        simp only [execOp]
      rw [hex]
      generalize hps : (ps.map fun p => (p.1, ρ p.2)) = ps'
      have hsz : ps'.size = len := by rw [← hps]; simpa using h2
      refine snd_bslc (ps := ps') (xs := qs.map (fun y : Opd => y.ev fr)) hu hei hz h4 h5 (fun j p hj => ?_) hsz h3 ?_ hrel h'
      · rw [← hps] at hj
        simp only [Array.toList_map, List.getElem?_map, Option.map_eq_some_iff] at hj
        obtain ⟨p', hp', rfl⟩ := hj
        have := seqParts_sound 0 ps.toList h1 j p' hp'
        simpa using this
      · have e : (ps.map fun p => (p.1, ρ p.2)).toList.map (·.2) = (ps.toList.map (·.2)).map ρ := by simp [List.map_map]
        rw [← hps, e]
        exact hr
    · cases hc
  · cases hc

set_option maxHeartbeats 400000 in
theorem cop_slice {dst : Option Tmp} {type : TypeId} {pos : String} {after : Array Edge} {guard : Option (Nat × Bool)} {t : TypeId} {x : Operand} {lo hi mx : Option Operand} {vo : VOp} (hc : cop P m ⟨dst, .slice t x lo hi mx, type, pos, after, guard⟩ = some vo)
    (hrel : Rel μ σ w) (hρ : Ops m μ w fr ρ) (h : vop μ.G vo fr σ K) : Snd μ w ((execOp ρ ⟨dst, .slice t x lo hi mx, type, pos, after, guard⟩).run P w) K := by
  cases mx with
  | some _ => simp only [cop, reduceCtorEq] at hc
  | none =>
    simp only [cop] at hc
    split at hc
    · rename_i hu
      simp only [Option.bind_eq_bind, Option.bind_eq_some_iff, Option.pure_def, Option.some.injEq] at hc
      obtain ⟨x', hx, lo', hlo, hi', hhi, rfl⟩ := hc
      obtain ⟨l1, l2⟩ := copdO_sound hρ hlo
      obtain ⟨g1, g2⟩ := copdO_sound hρ hhi
      exact snd_slS (lo := lo'.map (fun y : Opd => y.ev fr)) (hi := hi'.map (fun y : Opd => y.ev fr)) (lo' := lo.map ρ) (hi' := hi.map ρ) hu (hρ _ _ hx) hrel l1 l2 g1 g2 h
    · rename_i e hu
      simp only [Option.bind_eq_bind, Option.bind_eq_some_iff, Option.pure_def, Option.some.injEq] at hc
      obtain ⟨ei, hei, x', hx, lo', hlo, hi', hhi, rfl⟩ := hc
      obtain ⟨l1, l2⟩ := copdO_sound hρ hlo
      obtain ⟨g1, g2⟩ := copdO_sound hρ hhi
      exact snd_slV (lo := lo'.map (fun y : Opd => y.ev fr)) (hi := hi'.map (fun y : Opd => y.ev fr)) (lo' := lo.map ρ) (hi' := hi.map ρ) hu hei (hρ _ _ hx) hrel l1 l2 g1 g2 h
    · cases hc

set_option maxHeartbeats 400000 in
theorem cop_builtin {dst : Option Tmp} {type : TypeId} {pos : String} {after : Array Edge} {guard : Option (Nat × Bool)} {c : Call} {vo : VOp} (hc : cop P m ⟨dst, .call c, type, pos, after, guard⟩ = some vo)
    (hrel : Rel μ σ w) (hρ : Ops m μ w fr ρ) (h : vop μ.G vo fr σ K) : Snd μ w ((execOp ρ ⟨dst, .call c, type, pos, after, guard⟩).run P w) K := by
  obtain ⟨callee, args, argTypes⟩ := c
  cases callee with
  | value f => simp only [cop, reduceCtorEq] at hc
  | invoke f n => simp only [cop, reduceCtorEq] at hc
  | builtin b =>
    have run : ∀ (xs : List Operand) (ts : List TypeId) (f : Array TypeId → TypeId → Array Value → Sem Value), args.toList = xs → argTypes.toList = ts →
        (∀ at' ty' cs as', builtin b at' ty' cs as' = (do pure (Next.value (← f at' ty' as')))) →
        execOp ρ ⟨dst, .call ⟨.builtin b, args, argTypes⟩, type, pos, after, guard⟩ = (do pure (Next.value (← f ts.toArray type (xs.map ρ).toArray))) := by
      intro xs ts f hxs hts hf
      have e1 : args = xs.toArray := by rw [← hxs]
      have e2 : argTypes = ts.toArray := by rw [← hts]
      subst e1 e2
      simp only [execOp, resolve, pure_bind, invoke, hf, List.map_toArray]
    simp only [cop] at hc
    split at hc
    · rename_i x t hargs htys
      rw [run _ _ _ hargs htys (fun _ _ _ _ => rfl)]
      split at hc
      · rename_i hu
        simp only [Option.map_eq_some_iff] at hc
        obtain ⟨x', hx, rfl⟩ := hc
        exact snd_lenS hu (hρ _ _ hx) hrel h
      · rename_i e hu
        simp only [Option.map_eq_some_iff] at hc
        obtain ⟨x', hx, rfl⟩ := hc
        exact snd_lenV hu (hρ _ _ hx) hrel h
      · rename_i n e hu
        simp only [Option.some.injEq] at hc
        subst hc
        exact snd_lenA hu hrel h
      · rename_i k e hu
        simp only [Option.map_eq_some_iff] at hc
        obtain ⟨x', hx, rfl⟩ := hc
        exact snd_lenM hu (hρ _ _ hx) hrel h
      · cases hc
    · rename_i x y t u hargs htys
      rw [run _ _ _ hargs htys (fun _ _ _ _ => rfl)]
      split at hc
      · rename_i e e' ht htx
        simp only [Option.bind_eq_bind, Option.bind_eq_some_iff] at hc
        obtain ⟨ei, hei, z, hz, zv, hzv, hc⟩ := hc
        split at hc
        · rename_i hcond
          obtain ⟨h1, h2, _⟩ := hcond
          simp only [Option.bind_eq_some_iff, Option.pure_def, Option.some.injEq] at hc
          obtain ⟨x', hx, y', hy, rfl⟩ := hc
          have hzs : z.cells.size = ei.size := by
            have := (cval_sound (μ := μ) (w := w) hzv).cells.1
            rw [h1] at this
            simpa using this.symm
          exact snd_app ht htx hei hz hzs h2 (hρ _ _ hx) (hρ _ _ hy) hrel h
        · cases hc
      · rename_i e ht htx
        simp only [Option.bind_eq_bind, Option.bind_eq_some_iff] at hc
        obtain ⟨ei, hei, z, hz, hc⟩ := hc
        split at hc
        · split at hc
          · rename_i hcond
            obtain ⟨h1, h2⟩ := hcond
            simp only [Option.bind_eq_some_iff, Option.pure_def, Option.some.injEq] at hc
            obtain ⟨x', hx, y', hy, rfl⟩ := hc
            exact snd_appS ht htx hei hz h1 h2 (hρ _ _ hx) (hρ _ _ hy) hrel h
          · cases hc
        · cases hc
      · cases hc
    · rename_i x y hargs
      rw [run _ _ _ hargs rfl (fun _ _ _ _ => rfl)]
      simp only [Option.bind_eq_bind, Option.bind_eq_some_iff, Option.pure_def, Option.some.injEq] at hc
      obtain ⟨x', hx, y', hy, rfl⟩ := hc
      exact snd_mx (hρ _ _ hx) (hρ _ _ hy) hrel h
    · rename_i x y hargs
      rw [run _ _ _ hargs rfl (fun _ _ _ _ => rfl)]
      simp only [Option.bind_eq_bind, Option.bind_eq_some_iff, Option.pure_def, Option.some.injEq] at hc
      obtain ⟨x', hx, y', hy, rfl⟩ := hc
      exact snd_mn (hρ _ _ hx) (hρ _ _ hy) hrel h
    · rename_i x hargs
      rw [run _ _ _ hargs rfl (fun _ _ _ _ => rfl)]
      simp only [Option.map_eq_some_iff] at hc
      obtain ⟨x', hx, rfl⟩ := hc
      exact snd_usd (hρ _ _ hx) hrel h
    · rename_i x y t t' hargs htys
      rw [run _ _ _ hargs htys (fun _ _ _ _ => rfl)]
      split at hc
      · rename_i u hu
        split at hc
        · split at hc
          · rename_i h1
            simp only [Option.bind_eq_bind, Option.bind_eq_some_iff, Option.pure_def, Option.some.injEq] at hc
            obtain ⟨x', hx, y', hy, rfl⟩ := hc
            exact snd_ustr hu h1 (hρ _ _ hx) (hρ _ _ hy) hrel h
          · cases hc
        · cases hc
      · cases hc
    · cases hc

set_option maxHeartbeats 1000000 in
theorem cop_sound {o : Oper} {vo : VOp} (hc : cop P m o = some vo) (hrel : Rel μ σ w) (hρ : Ops m μ w fr ρ) (h : vop μ.G vo fr σ K) :
    Snd μ w ((execOp ρ o).run P w) K := by
  obtain ⟨dst, op, type, pos, after, guard⟩ := o
  cases op
  case move x => exact cop_move (dst := dst) (type := type) (pos := pos) (after := after) (guard := guard) hc hrel hρ h
  case assign x => exact cop_move (dst := dst) (type := type) (pos := pos) (after := after) (guard := guard) hc hrel hρ h
  case pick c a b =>
    simp only [cop, Option.bind_eq_bind, Option.bind_eq_some_iff, Option.pure_def, Option.some.injEq] at hc
    obtain ⟨c', hc', a', ha', b', hb', rfl⟩ := hc
    exact snd_pick (hρ _ _ hc') (hρ _ _ ha') (hρ _ _ hb') hrel h
  case alloc e =>
    simp only [cop, Option.bind_eq_bind, Option.bind_eq_some_iff] at hc
    obtain ⟨i, hi, z, hz, zv, hzv, hc⟩ := hc
    split at hc
    · cases hc
    · rename_i hnt
      simp only [Option.pure_def, Option.some.injEq] at hc
      subst hc
      exact snd_alloc hi hz hzv (by cases zv <;> first | rfl | exact absurd rfl (hnt _)) hrel h
  case box e x =>
    simp only [cop, Option.map_eq_some_iff] at hc
    obtain ⟨x', hx, rfl⟩ := hc
    exact snd_box (hρ _ _ hx) h.1 hrel h.2
  case build t ps =>
    simp only [cop, Option.bind_eq_bind, Option.bind_eq_some_iff] at hc
    obtain ⟨i, hi, z, hz, zv, hzv, hc⟩ := hc
    split at hc
    · rename_i zs
      split at hc
      · rename_i fs hu
        simp only [Option.bind_eq_some_iff] at hc
        obtain ⟨qs, hqs, hc⟩ := hc
        split at hc
        · rename_i hall
          simp only [Option.pure_def, Option.some.injEq] at hc
          subst hc
          have hall' : ∀ f ∈ fs.toList, (P.info? f.type).isSome = true := fun f hf => List.all_eq_true.1 hall f hf
          obtain ⟨h1, h2⟩ := build_parts (fieldAtP P fs) hρ (by simpa only [Option.bind_eq_bind, Option.pure_def] using hqs)
          refine snd_build (fieldAtP P fs) hi hz hzv (fun out hout => ?_) h1 h2 hrel h
          have hpl := places_run (P := P) (w := w) fs.toList hall'
          have hpe : (fun i => (fs.toList.map fun f => (f.offset, P.cellsOf f.type)).toArray[i]?) = fieldAtP P fs := by
            funext i
            simp only [List.getElem?_toArray, List.getElem?_map, Array.getElem?_toList, fieldAtP]
            cases hf : fs[i]? with
            | none => rfl
            | some f =>
              have hm : f ∈ fs.toList := by
                have := Array.mem_of_getElem? hf
                simpa using this
              obtain ⟨fi, hfi⟩ := Option.isSome_iff_exists.1 (hall' f hm)
              simp [Program.cellsOf, hfi]
          simp only [Instr.build, Sem.run_bind, zeroValue_run hi hz, Result.andThen_ok, underlying_run hu, Array.mapM_eq_mapM_toList, Sem.run_map, hpl, hpe, hout, Sem.run_pure]
        · cases hc
      · rename_i n e hu
        simp only [Option.bind_eq_some_iff] at hc
        obtain ⟨ei, hei, qs, hqs, hc⟩ := hc
        simp only [Option.pure_def, Option.some.injEq] at hc
        subst hc
        obtain ⟨h1, h2⟩ := build_parts (fun i => some (i * ei.size, ei.size)) hρ (by simpa only [Option.bind_eq_bind, Option.pure_def] using hqs)
        refine snd_build (fun i => some (i * ei.size, ei.size)) hi hz hzv (fun out hout => ?_) h1 h2 hrel h
        simp only [Instr.build, Sem.run_bind, zeroValue_run hi hz, Result.andThen_ok, underlying_run hu, sizeOf_run hei, hout, Sem.run_pure]
      · cases hc
    · cases hc
  case load t x =>
    simp only [cop] at hc
    split at hc
    · rename_i d hd
      split at hc
      · rename_i ha
        simp only [Option.bind_eq_bind, Option.bind_eq_some_iff, Option.pure_def, Option.some.injEq] at hc
        obtain ⟨i, hi, x', hx, rfl⟩ := hc
        exact snd_loadA hd ha hi (hρ _ _ hx) hrel h
      · rename_i ha
        simp only [Option.map_eq_some_iff] at hc
        obtain ⟨x', hx, rfl⟩ := hc
        exact snd_loadL hd (by simpa using ha) (hρ _ _ hx) hrel h
    · cases hc
  case store t x v =>
    simp only [cop, Option.bind_eq_bind, Option.bind_eq_some_iff, Option.pure_def, Option.some.injEq] at hc
    obtain ⟨i, hi, x', hx, v', hv, rfl⟩ := hc
    exact snd_store hi (hρ _ _ hx) (hρ _ _ hv) hrel h
  case nilCheck x =>
    simp only [cop, Option.map_eq_some_iff] at hc
    obtain ⟨x', hx, rfl⟩ := hc
    refine snd_nilck (hρ _ _ hx) hrel h (fun a ha => ?_)
    simp only [execOp, ha]
    rfl
  case binOp op xt x y yt =>
    simp only [cop] at hc
    split at hc
    · simp only [Option.bind_eq_bind, Option.bind_eq_some_iff, Option.pure_def, Option.some.injEq] at hc
      obtain ⟨x', hx, y', hy, rfl⟩ := hc
      exact snd_bin (hρ _ _ hx) (hρ _ _ hy) hrel h
    · simp only [Option.bind_eq_bind, Option.bind_eq_some_iff, Option.pure_def, Option.some.injEq] at hc
      obtain ⟨x', hx, y', hy, rfl⟩ := hc
      exact snd_bin (hρ _ _ hx) (hρ _ _ hy) hrel h
    · rename_i hu
      split at hc
      · simp only [Option.bind_eq_bind, Option.bind_eq_some_iff, Option.pure_def, Option.some.injEq] at hc
        obtain ⟨x', hx, y', hy, rfl⟩ := hc
        exact snd_eqB false rfl hu (hρ _ _ hx) (hρ _ _ hy) hrel h
      · simp only [Option.bind_eq_bind, Option.bind_eq_some_iff, Option.pure_def, Option.some.injEq] at hc
        obtain ⟨x', hx, y', hy, rfl⟩ := hc
        exact snd_eqB true rfl hu (hρ _ _ hx) (hρ _ _ hy) hrel h
      · cases hc
    · rename_i d _ _ _ hu
      split at hc
      · rename_i hn
        simp only [Option.bind_eq_bind, Option.bind_eq_some_iff] at hc
        obtain ⟨q, hq, hc⟩ := hc
        split at hc
        · simp only [Option.bind_eq_some_iff, Option.pure_def, Option.some.injEq] at hc
          obtain ⟨x', hx, y', hy, rfl⟩ := hc
          exact snd_eqN false rfl hu hq hn (hρ _ _ hx) (hρ _ _ hy) hrel h
        · simp only [Option.bind_eq_some_iff, Option.pure_def, Option.some.injEq] at hc
          obtain ⟨x', hx, y', hy, rfl⟩ := hc
          exact snd_eqN true rfl hu hq hn (hρ _ _ hx) (hρ _ _ hy) hrel h
        · cases hc
      · split at hc
        · simp only [Option.bind_eq_bind, Option.bind_eq_some_iff] at hc
          obtain ⟨i, hi, hc⟩ := hc
          split at hc
          · cases hc
          · rename_i hz
            split at hc
            · simp only [Option.bind_eq_some_iff, Option.pure_def, Option.some.injEq] at hc
              obtain ⟨x', hx, y', hy, rfl⟩ := hc
              exact snd_eqP false rfl hu hi hz (hρ _ _ hx) (hρ _ _ hy) hrel h
            · simp only [Option.bind_eq_some_iff, Option.pure_def, Option.some.injEq] at hc
              obtain ⟨x', hx, y', hy, rfl⟩ := hc
              exact snd_eqP true rfl hu hi hz (hρ _ _ hx) (hρ _ _ hy) hrel h
            · cases hc
        · cases hc
    · cases hc
  case unOp op xt x =>
    simp only [cop, Option.map_eq_some_iff] at hc
    obtain ⟨x', hx, rfl⟩ := hc
    exact snd_un (hρ _ _ hx) hrel h
  case extract x i =>
    simp only [cop, Option.bind_eq_bind, Option.bind_eq_some_iff, Option.pure_def, Option.some.injEq] at hc
    obtain ⟨x', hx, rfl⟩ := hc
    exact snd_ext (hρ _ _ hx) hrel h
  case makeFunc f fs cs =>
    simp only [cop, Option.bind_eq_bind, Option.bind_eq_some_iff, Option.pure_def, Option.some.injEq] at hc
    obtain ⟨fs', hf, cs', hcs, rfl⟩ := hc
    exact snd_mkF hρ hf hcs hrel h
  case convert src dst x =>
    simp only [cop] at hc
    split at hc
    · rename_i hs hd
      simp only [Option.map_eq_some_iff] at hc
      obtain ⟨x', hx, rfl⟩ := hc
      exact snd_cvI hs hd (hρ _ _ hx) hrel h
    · rename_i hs hd
      simp only [Option.map_eq_some_iff] at hc
      obtain ⟨x', hx, rfl⟩ := hc
      exact snd_cvIS hs hd (hρ _ _ hx) hrel h
    · rename_i hs hd
      simp only [Option.map_eq_some_iff] at hc
      obtain ⟨x', hx, rfl⟩ := hc
      exact snd_cvS hs hd (hρ _ _ hx) hrel h
    · rename_i e hs hd
      split at hc
      · rename_i he
        simp only [Option.map_eq_some_iff] at hc
        obtain ⟨x', hx, rfl⟩ := hc
        exact snd_cvBS hs he hd (hρ _ _ hx) hrel h
      · cases hc
    · rename_i e hs hd
      split at hc
      · rename_i he
        simp only [Option.map_eq_some_iff] at hc
        obtain ⟨x', hx, rfl⟩ := hc
        exact snd_cvSB hs hd he (hρ _ _ hx) hrel h
      · cases hc
    · rename_i e hs hd
      simp only [Option.bind_eq_bind, Option.bind_eq_some_iff] at hc
      obtain ⟨i, hi, hc⟩ := hc
      split at hc
      · cases hc
      · rename_i hz
        simp only [Option.map_eq_some_iff] at hc
        obtain ⟨x', hx, rfl⟩ := hc
        exact snd_cvUP hs hd hi hz (hρ _ _ hx) hrel h
    · rename_i u hs hd
      simp only [Option.bind_eq_bind, Option.bind_eq_some_iff] at hc
      obtain ⟨i, hi, hc⟩ := hc
      split at hc
      · cases hc
      · rename_i hz
        simp only [Option.map_eq_some_iff] at hc
        obtain ⟨x', hx, rfl⟩ := hc
        exact snd_cvPU hs hd hi hz (hρ _ _ hx) hrel h
    · cases hc
  case makeInterface t x =>
    simp only [cop] at hc
    split at hc
    · cases hc
    · rename_i d hn hu
      simp only [Option.map_eq_some_iff] at hc
      obtain ⟨x', hx, rfl⟩ := hc
      exact snd_mkI hu (fun ms e => hn ms e) (hρ _ _ hx) hrel h
    · cases hc
  case fieldAddr s x f =>
    simp only [cop] at hc
    split at hc
    · rename_i fs hu
      simp only [Option.bind_eq_bind, Option.bind_eq_some_iff] at hc
      obtain ⟨fd, hf, i, hi, hc⟩ := hc
      split at hc
      · cases hc
      · rename_i hz
        simp only [Option.bind_eq_some_iff, Option.pure_def, Option.some.injEq] at hc
        obtain ⟨x', hx, rfl⟩ := hc
        exact snd_fadr hu hf hi hz (hρ _ _ hx) hrel h
    · cases hc
  case field t x f =>
    simp only [cop] at hc
    split at hc
    · rename_i fs hu
      simp only [Option.bind_eq_bind, Option.bind_eq_some_iff] at hc
      obtain ⟨fd, hf, i, hi, hc⟩ := hc
      split at hc
      · rename_i d hd
        split at hc
        · rename_i ha
          simp only [Option.bind_eq_some_iff, Option.pure_def, Option.some.injEq] at hc
          obtain ⟨x', hx, rfl⟩ := hc
          exact snd_fldA hu hf hi hd ha (hρ _ _ hx) hrel h
        · rename_i ha
          simp only [Option.bind_eq_some_iff, Option.pure_def, Option.some.injEq] at hc
          obtain ⟨x', hx, rfl⟩ := hc
          exact snd_fldL hu hf hi hd (by simpa using ha) (hρ _ _ hx) hrel h
      · cases hc
    · cases hc
  case indexAddr t x i =>
    simp only [cop] at hc
    split at hc
    · rename_i e hu
      simp only [Option.bind_eq_bind, Option.bind_eq_some_iff, Option.pure_def, Option.some.injEq] at hc
      obtain ⟨ei, hei, x', hx, i', hi, rfl⟩ := hc
      exact snd_iadV hu hei (hρ _ _ hx) (hρ _ _ hi) hrel h
    · rename_i n e hu
      simp only [Option.bind_eq_bind, Option.bind_eq_some_iff, Option.pure_def, Option.some.injEq] at hc
      obtain ⟨ei, hei, x', hx, i', hi, rfl⟩ := hc
      exact snd_iadA hu hei (hρ _ _ hx) (hρ _ _ hi) hrel h
    · cases hc
  case index t x i =>
    simp only [cop] at hc
    split at hc
    · rename_i hu
      simp only [Option.bind_eq_bind, Option.bind_eq_some_iff, Option.pure_def, Option.some.injEq] at hc
      obtain ⟨x', hx, i', hi, rfl⟩ := hc
      exact snd_idxS hu (hρ _ _ hx) (hρ _ _ hi) hrel h
    · rename_i n e hu
      simp only [Option.bind_eq_bind, Option.bind_eq_some_iff] at hc
      obtain ⟨ei, hei, hc⟩ := hc
      split at hc
      · rename_i d hd
        split at hc
        · rename_i ha
          simp only [Option.bind_eq_some_iff, Option.pure_def, Option.some.injEq] at hc
          obtain ⟨x', hx, i', hi, rfl⟩ := hc
          exact snd_idxA hu hei hd ha (hρ _ _ hx) (hρ _ _ hi) hrel h
        · rename_i ha
          split at hc
          · rename_i h1
            simp only [Option.bind_eq_some_iff, Option.pure_def, Option.some.injEq] at hc
            obtain ⟨x', hx, i', hi, rfl⟩ := hc
            exact snd_idxL hu hei h1 hd (by simpa using ha) (hρ _ _ hx) (hρ _ _ hi) hrel h
          · cases hc
      · cases hc
    · cases hc
  case typeAssert x xt t ok =>
    simp only [cop] at hc
    split at hc
    · cases hc
    · rename_i d hn hu
      split at hc
      · rename_i hok
        simp only [Option.bind_eq_bind, Option.bind_eq_some_iff, Option.pure_def, Option.some.injEq] at hc
        obtain ⟨i, hi, z, hz, zv, hzv, x', hx, rfl⟩ := hc
        subst hok
        exact snd_tasOk hu (fun ms e => hn ms e) hi hz hzv (hρ _ _ hx) hrel h
      · rename_i hok
        simp only [Option.map_eq_some_iff] at hc
        obtain ⟨x', hx, rfl⟩ := hc
        have : ok = false := by simpa using hok
        subst this
        exact snd_tas hu (fun ms e => hn ms e) (hρ _ _ hx) hrel h
    · cases hc
  case lookup t x i ok =>
    simp only [cop] at hc
    split at hc
    · rename_i k e hu
      simp only [Option.bind_eq_bind, Option.bind_eq_some_iff, Option.pure_def, Option.some.injEq] at hc
      obtain ⟨ei, hei, z, hz, kd, hkd, q, hq, zv, hzv, x', hx, i', hi, rfl⟩ := hc
      exact snd_look hu hkd hq hei hz hzv (hρ _ _ hx) (hρ _ _ hi) hrel h
    · cases hc
  case mapUpdate t x i v =>
    simp only [cop] at hc
    split at hc
    · rename_i k e hu
      simp only [Option.bind_eq_bind, Option.bind_eq_some_iff, Option.pure_def, Option.some.injEq] at hc
      obtain ⟨kd, hkd, q, hq, x', hx, i', hi, v', hv, rfl⟩ := hc
      exact snd_mset hu hkd hq (hρ _ _ hx) (hρ _ _ hi) (hρ _ _ hv) hrel h
    · cases hc
  case insert t x i v =>
    simp only [cop] at hc
    split at hc
    · rename_i k e hu
      simp only [Option.bind_eq_bind, Option.bind_eq_some_iff, Option.pure_def, Option.some.injEq] at hc
      obtain ⟨kd, hkd, q, hq, x', hx, i', hi, v', hv, rfl⟩ := hc
      exact snd_mset hu hkd hq (hρ _ _ hx) (hρ _ _ hi) (hρ _ _ hv) hrel h
    · cases hc
  case makeMap t res =>
    cases res with
    | some _ => simp only [cop, reduceCtorEq] at hc
    | none =>
      simp only [cop] at hc
      split at hc
      · rename_i k e hu
        simp only [Option.some.injEq] at hc
        subst hc
        exact snd_mkM hu hrel h
      · cases hc
  case buildSlice t len ps => exact cop_bslc hc hrel hρ h
  case slice t x lo hi mx => exact cop_slice hc hrel hρ h
  case call c => exact cop_builtin hc hrel hρ h
  all_goals (simp only [cop, reduceCtorEq] at hc)
end
end Go.Vs
