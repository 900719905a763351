/- The abstract machine, part 1: abstract values, boxes, what it means that a world holds them, and that this lasts while a call works on. Conditions: none. -/
import Derived.Orders
import Derived.Tactics
import Derived.Below
import Derived.Laws.Cells
import Derived.Laws.Rows
import Derived.Laws.AppendOwn
namespace Go.Proofs.YtpbjbnghcbcdiaaDoor.AM
open Go

inductive Site where
  | loc (n : Nat)
  | up (k : Nat)
  deriving DecidableEq

/-- An abstract value. -/
inductive AV where
  | c (v : Value)
  | junk
  | sl (es : List (List AV))
  | agg (cs : List AV)
  | tup (cs : List AV)
  | ip (cs : List AV)
  | ptr (s : Site) (ver i off : Nat)
  | own (s : Site) (ver n : Nat)
  | fn (f : FuncId) (cs : List AV)
  | ifc (T : TypeId) (a : AV)

structure Box where
  ver : Nat
  live : Bool
  T : TypeId
  sz : Nat
  es : List (List AV)

abbrev Heap := Site → Box
structure Blk where
  b : Site → Option Nat
  cap : Site → Nat

/-- A block that is none of the boxes, and not barred. -/
def Okb (X : Nat → Prop) (h : Heap) (β : Blk) (b : Nat) : Prop := ¬ X b ∧ ∀ s, (h s).live = true → β.b s ≠ some b

inductive RepV (w : World) (X : Nat → Prop) (h : Heap) (β : Blk) : Value → AV → Prop
  | c (v : Value) : RepV w X h β v (.c v)
  | junk (v : Value) : RepV w X h β v .junk
  | sl (A : Option Addr) (cap : Nat) (es : List (List AV)) (sz b off : Nat) (cell : Nat → Nat → Value)
      (h1 : es.length ≤ cap) (h2 : es.length ≤ maxLen) (h3 : es ≠ [] → A = some ⟨b, off, none⟩) (h4 : ∀ e ∈ es, e.length = sz)
      (h5 : ∀ (i j : Nat) (e : List AV) (a : AV), es[i]? = some e → e[j]? = some a → w.cell? ⟨b, off + i * sz + j, none⟩ = some (cell i j))
      (h6 : es ≠ [] → b < w.heap.size ∧ Okb X h β b)
      (h7 : ∀ (i j : Nat) (e : List AV) (a : AV), es[i]? = some e → e[j]? = some a → RepV w X h β (cell i j) a) :
      RepV w X h β (.slice A es.length cap) (.sl es)
  | agg (vs : Array Value) (cs : List AV) (h1 : vs.size = cs.length) (h2 : ∀ (i : Nat) (v : Value) (a : AV), vs[i]? = some v → cs[i]? = some a → RepV w X h β v a) :
      RepV w X h β (.agg vs) (.agg cs)
  | tup (vs : Array Value) (cs : List AV) (h1 : vs.size = cs.length) (h2 : ∀ (i : Nat) (v : Value) (a : AV), vs[i]? = some v → cs[i]? = some a → RepV w X h β v a) :
      RepV w X h β (.tuple vs) (.tup cs)
  | ip (b off : Nat) (cs : List AV) (cell : Nat → Value) (h1 : b < w.heap.size ∧ Okb X h β b)
      (h2 : ∀ (j : Nat) (a : AV), cs[j]? = some a → w.cell? ⟨b, off + j, none⟩ = some (cell j))
      (h3 : ∀ (j : Nat) (a : AV), cs[j]? = some a → RepV w X h β (cell j) a) : RepV w X h β (.pointer (some ⟨b, off, none⟩)) (.ip cs)
  | ptr (v : Value) (s : Site) (ver i off : Nat) (h0 : v.oneCell' = true) (h1 : ver ≤ (h s).ver)
      (h2 : ver = (h s).ver → (h s).live = true → ∃ b, β.b s = some b ∧ v = .pointer (some ⟨b, i * (h s).sz + off, none⟩)) : RepV w X h β v (.ptr s ver i off)
  | own (v : Value) (s : Site) (ver n : Nat) (h0 : v.oneCell' = true) (h1 : ver ≤ (h s).ver)
      (h2 : ver = (h s).ver → (h s).live = true → (∃ b, β.b s = some b ∧ v = .slice (some ⟨b, 0, none⟩) n (β.cap s) ∧ n ≤ β.cap s) ∨ (β.b s = none ∧ v = .slice none 0 0 ∧ n = 0)) : RepV w X h β v (.own s ver n)
  | fn (f : FuncId) (vs : Array Value) (cs : List AV) (h1 : vs.size = cs.length) (h2 : ∀ (i : Nat) (v : Value) (a : AV), vs[i]? = some v → cs[i]? = some a → RepV w X h β v a) :
      RepV w X h β (.func (.func f) #[] vs) (.fn f cs)
  | ifc (T : TypeId) (v : Value) (a : AV) (h1 : RepV w X h β v a) : RepV w X h β (.iface T v) (.ifc T a)

/-- From one moment to a later one: what is read stays, boxes keep their places or are none any more. -/
structure Ext (w : World) (X : Nat → Prop) (h : Heap) (β : Blk) (w' : World) (X' : Nat → Prop) (h' : Heap) (β' : Blk) : Prop where
  size : w.heap.size ≤ w'.heap.size
  imm : ∀ b, b < w.heap.size → Okb X h β b → w'.heap[b]? = w.heap[b]? ∧ Okb X' h' β' b
  ver : ∀ s, (h s).ver ≤ (h' s).ver
  ref : ∀ s, (h s).ver = (h' s).ver → (h' s).live = true → (h s).live = true ∧ (h' s).sz = (h s).sz ∧ β'.b s = β.b s ∧ β'.cap s = β.cap s

theorem Ext.refl (w X h β) : Ext w X h β w X h β := ⟨Nat.le_refl _, fun _ _ hb => ⟨rfl, hb⟩, fun _ => Nat.le_refl _, fun _ _ hl => ⟨hl, rfl, rfl, rfl⟩⟩

variable {w w' : World} {X X' : Nat → Prop} {h h' : Heap} {β β' : Blk}

theorem Ext.cell (E : Ext w X h β w' X' h' β') {b : Nat} (hb : b < w.heap.size) (ho : Okb X h β b) (off : Nat) : w'.cell? ⟨b, off, none⟩ = w.cell? ⟨b, off, none⟩ :=
  World.cell?_of_block (a := ⟨b, off, none⟩) (E.imm b hb ho).1

theorem RepV.ext (E : Ext w X h β w' X' h' β') {v : Value} {a : AV} (r : RepV w X h β v a) : RepV w' X' h' β' v a := by
  induction r with
  | c v => exact .c v
  | junk v => exact .junk v
  | sl A cap es sz b off cell h1 h2 h3 h4 h5 h6 h7 ih =>
    refine .sl A cap es sz b off cell h1 h2 h3 h4 (fun i j e a he ha => ?_) (fun hne => ?_) ih
    · have hne : es ≠ [] := by rintro rfl; simp at he
      obtain ⟨hb, ho⟩ := h6 hne
      rw [E.cell hb ho]
      exact h5 i j e a he ha
    · obtain ⟨hb, ho⟩ := h6 hne
      exact ⟨Nat.lt_of_lt_of_le hb E.size, (E.imm b hb ho).2⟩
  | agg vs cs h1 h2 ih => exact .agg vs cs h1 ih
  | tup vs cs h1 h2 ih => exact .tup vs cs h1 ih
  | ip b off cs cell h1 h2 h3 ih =>
    refine .ip b off cs cell ⟨Nat.lt_of_lt_of_le h1.1 E.size, (E.imm b h1.1 h1.2).2⟩ (fun j a ha => ?_) ih
    rw [E.cell h1.1 h1.2]
    exact h2 j a ha
  | ptr v s ver i off h0 h1 h2 =>
    refine .ptr v s ver i off h0 (Nat.le_trans h1 (E.ver s)) (fun hv hl => ?_)
    have hs : (h s).ver = (h' s).ver := Nat.le_antisymm (E.ver s) (hv ▸ h1)
    obtain ⟨e1, e2, e3, e4⟩ := E.ref s hs hl
    rw [e2, e3]
    exact h2 (hv.trans hs.symm) e1
  | own v s ver n h0 h1 h2 =>
    refine .own v s ver n h0 (Nat.le_trans h1 (E.ver s)) (fun hv hl => ?_)
    have hs : (h s).ver = (h' s).ver := Nat.le_antisymm (E.ver s) (hv ▸ h1)
    obtain ⟨e1, e2, e3, e4⟩ := E.ref s hs hl
    rw [e3, e4]
    exact h2 (hv.trans hs.symm) e1
  | fn f vs cs h1 h2 ih => exact .fn f vs cs h1 ih
  | ifc T v a h1 ih => exact .ifc T v a ih

/-- What a live box holds: a block's cells; or it is a row without a block, and has none. -/
def HB (w : World) (X : Nat → Prop) (h : Heap) (β : Blk) (s : Site) : Prop :=
  (β.b s = none ∧ (h s).es = []) ∨
  ∃ b cur, β.b s = some b ∧ w.heap[b]? = some (.cells cur (h s).T (0, 0)) ∧ cur.size = β.cap s * (h s).sz ∧ β.cap s ≤ maxLen ∧ (h s).es.length ≤ β.cap s ∧
    (∀ e ∈ (h s).es, e.length = (h s).sz) ∧ ∀ (i j : Nat) (e : List AV) (a : AV), (h s).es[i]? = some e → e[j]? = some a → ∃ u, cur[i * (h s).sz + j]? = some u ∧ RepV w X h β u a

structure HeapRep (w : World) (X : Nat → Prop) (h : Heap) (β : Blk) : Prop where
  live : ∀ s, (h s).live = true → HB w X h β s
  inj : ∀ s s' b, (h s).live = true → (h s').live = true → β.b s = some b → β.b s' = some b → s = s'
  bar : ∀ s b, (h s).live = true → β.b s = some b → ¬ X b

/-- Boxes, from one moment to a later one. -/
structure ExB (h : Heap) (β : Blk) (h' : Heap) (β' : Blk) : Prop where
  ver : ∀ s, (h s).ver ≤ (h' s).ver
  ref : ∀ s, (h s).ver = (h' s).ver → (h' s).live = true → (h s).live = true ∧ (h' s).sz = (h s).sz ∧ β'.b s = β.b s ∧ β'.cap s = β.cap s
theorem Ext.exB (E : Ext w X h β w' X' h' β') : ExB h β h' β' := ⟨E.ver, E.ref⟩
theorem ExB.refl (h : Heap) (β : Blk) : ExB h β h β := ⟨fun _ => Nat.le_refl _, fun _ _ hl => ⟨hl, rfl, rfl, rfl⟩⟩
theorem ExB.trans {h1 h2 h3 : Heap} {b1 b2 b3 : Blk} (x : ExB h1 b1 h2 b2) (y : ExB h2 b2 h3 b3) : ExB h1 b1 h3 b3 := by
  refine ⟨fun s => Nat.le_trans (x.ver s) (y.ver s), fun s hv hl => ?_⟩
  have e1 : (h2 s).ver = (h3 s).ver := Nat.le_antisymm (y.ver s) (hv ▸ x.ver s)
  obtain ⟨l2, s2, c2, d2⟩ := y.ref s e1 hl
  obtain ⟨l1, s1, c1, d1⟩ := x.ref s (hv.trans e1.symm) l2
  exact ⟨l1, s2.trans s1, c2.trans c1, d2.trans d1⟩

/-- What the library's variable errors.errorType holds; its block is barred. -/
def gv : Value := .iface 108 (.agg #[.pointer (some ⟨1, 25, none⟩)])
structure Gl (X : Nat → Prop) (w : World) : Prop where
  bar : X 0
  cell : w.cell? ⟨0, 0, none⟩ = some gv
theorem Gl.mono (g : Gl X w) (hs : w'.heap[0]? = w.heap[0]?) (hx : ∀ k, X k → X' k) : Gl X' w' := ⟨hx _ g.bar, by rw [← g.cell]; exact World.cell?_of_block hs⟩
theorem Gl.lt (g : Gl X w) : 0 < w.heap.size := by
  rcases Nat.lt_or_ge 0 w.heap.size with h | h
  · exact h
  · have := g.cell
    simp [World.cell?, Array.getElem?_eq_none h] at this

/-- A call's own bounds: what is barred, what may be written, the world at its begin, its slots. -/
structure Ctx where
  X : Nat → Prop
  free : Nat → Prop
  w0 : World
  n : Nat
  hfree : ∀ k, w0.heap.size ≤ k → free k
  hX : ∀ k, X k → ¬ free k
  h0 : Heap
  β0 : Blk
  gl : Gl X w0

structure Keep (free : Nat → Prop) (w w' : World) : Prop where
  os : w'.os = w.os
  tape : w'.tape = w.tape
  output : w'.output = w.output
  size : w.heap.size ≤ w'.heap.size
  block : ∀ k, k < w.heap.size → ¬ free k → w'.heap[k]? = w.heap[k]?

theorem Keep.refl (free : Nat → Prop) (w : World) : Keep free w w := ⟨rfl, rfl, rfl, Nat.le_refl _, fun _ _ _ => rfl⟩
theorem Keep.trans {free : Nat → Prop} {w1 w2 w3 : World} (a : Keep free w1 w2) (b : Keep free w2 w3) : Keep free w1 w3 :=
  ⟨b.os.trans a.os, b.tape.trans a.tape, b.output.trans a.output, Nat.le_trans a.size b.size, fun k hk hf => (b.block k (Nat.lt_of_lt_of_le hk a.size) hf).trans (a.block k hk hf)⟩
theorem Keep.mono {f g : Nat → Prop} {w1 w2 : World} (a : Keep f w1 w2) (hm : ∀ k, k < w1.heap.size → f k → g k) : Keep g w1 w2 :=
  ⟨a.os, a.tape, a.output, a.size, fun k hk hg => a.block k hk (fun hf => hg (hm k hk hf))⟩

structure St where
  t : Nat → AV
  h : Heap

structure Sim (C : Ctx) (σ : St) (a : Act) (w : World) (β : Blk) : Prop where
  n : a.tmps.size = C.n
  d : a.defers = []
  t : ∀ i, RepV w C.X σ.h β (a.tmps.getD i undef) (σ.t i)
  hp : HeapRep w C.X σ.h β
  fr : ∀ s b, (σ.h s).live = true → β.b s = some b → C.free b
  keep : Keep C.free C.w0 w
  ex : ExB C.h0 C.β0 σ.h β

theorem Sim.gl {C : Ctx} {σ : St} {a : Act} (S : Sim C σ a w β) (hx : ∀ k, C.X k → X' k) : Gl X' w := C.gl.mono (S.keep.block _ C.gl.lt (C.hX _ C.gl.bar)) hx

def upd {α : Type} (f : Nat → α) (i : Nat) (v : α) : Nat → α := fun j => if j = i then v else f j
theorem upd_same {α : Type} (f : Nat → α) (i : Nat) (v : α) : upd f i v i = v := by simp [upd]
theorem upd_ne {α : Type} (f : Nat → α) {i j : Nat} (v : α) (hne : j ≠ i) : upd f i v j = f j := by simp [upd, hne]
def hupd (f : Heap) (s : Site) (b : Box) : Heap := fun s' => if s' = s then b else f s'
theorem hupd_same (f : Heap) (s : Site) (b : Box) : hupd f s b s = b := by simp [hupd]
theorem hupd_ne (f : Heap) {s s' : Site} (b : Box) (hne : s' ≠ s) : hupd f s b s' = f s' := by simp [hupd, hne]

def updO (f : Nat → AV) : Option Nat → AV → Nat → AV
  | none, _ => f
  | some d, v => upd f d v

/-- A slot is filled; the world, the boxes may have gone on. -/
theorem Sim.put {C : Ctx} {σ : St} {a : Act} (S : Sim C σ a w β) (E : Ext w C.X σ.h β w' C.X h' β') (hp : HeapRep w' C.X h' β') (hfr : ∀ s b, (h' s).live = true → β'.b s = some b → C.free b) (hk : Keep C.free w w')
    {d : Option Nat} (hd : ∀ k, d = some k → k < C.n) {v : Value} {av : AV} (hv : RepV w' C.X h' β' v av) : Sim C ⟨updO σ.t d av, h'⟩ (a.put d v) w' β' := by
  refine ⟨?_, ?_, fun i => ?_, hp, hfr, S.keep.trans hk, S.ex.trans E.exB⟩
  · cases d <;> simp [Act.put, S.n]
  · cases d <;> simp [Act.put, S.d]
  · cases d with
    | none => exact (S.t i).ext E
    | some k =>
      have hlt := hd k rfl
      by_cases hi : i = k
      · subst hi
        have : (a.put (some i) v).tmps.getD i undef = v := by simp [Act.put, S.n, hlt]
        rw [this]
        simpa [updO, upd] using hv
      · have : (a.put (some k) v).tmps.getD i undef = a.tmps.getD i undef := by simp [Act.put, Array.getElem?_setIfInBounds_ne (Ne.symm hi)]
        rw [this]
        have e : updO σ.t (some k) av i = σ.t i := by simp [updO, upd, hi]
        show RepV w' C.X h' β' _ (updO σ.t (some k) av i)
        rw [e]
        exact (S.t i).ext E

theorem Sim.pure {C : Ctx} {σ : St} {a : Act} (S : Sim C σ a w β) {d : Option Nat} (hd : ∀ k, d = some k → k < C.n) {v : Value} {av : AV} (hv : RepV w C.X σ.h β v av) : Sim C ⟨updO σ.t d av, σ.h⟩ (a.put d v) w β :=
  S.put (Ext.refl _ _ _ _) S.hp S.fr (Keep.refl _ _) hd hv

/-- Drawing an order changes nothing. -/
theorem RepV.drew {v : Value} {a : AV} (r : RepV w X h β v a) : RepV w.drew X h β v a :=
  RepV.ext (w := w) (w' := w.drew) (X' := X) (h' := h) (β' := β) ⟨Nat.le_refl _, fun _ _ hb => ⟨rfl, hb⟩, fun _ => Nat.le_refl _, fun _ _ hl => ⟨hl, rfl, rfl, rfl⟩⟩ r
theorem HB.drew {s : Site} (r : HB w X h β s) : HB w.drew X h β s := by
  rcases r with r | ⟨b, cur, h0, h1, h2, h3, h4, h5, h6⟩
  · exact .inl r
  · exact .inr ⟨b, cur, h0, h1, h2, h3, h4, h5, fun i j e a he ha => by obtain ⟨u, hu, hr⟩ := h6 i j e a he ha; exact ⟨u, hu, hr.drew⟩⟩
theorem HeapRep.drew (r : HeapRep w X h β) : HeapRep w.drew X h β := ⟨fun s hs => (r.live s hs).drew, r.inj, r.bar⟩
theorem Sim.drew {C : Ctx} {σ : St} {a : Act} (S : Sim C σ a w β) : Sim C σ a w.drew β :=
  ⟨S.n, S.d, fun i => (S.t i).drew, S.hp.drew, S.fr, ⟨S.keep.os, S.keep.tape, S.keep.output, S.keep.size, S.keep.block⟩, S.ex⟩

end Go.Proofs.YtpbjbnghcbcdiaaDoor.AM
