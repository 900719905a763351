/- The abstract machine, part 6: literals, stores, append. Conditions: none. -/
import Derived.Test.YtpbjbnghcbcdiaaDoorAm5
set_option linter.unusedVariables false
namespace Go.Proofs.YtpbjbnghcbcdiaaDoor.AM
open Go

variable {P : Program} {C : Ctx} {ops : Array Oper} {σ : St} {w w' : World} {h : Heap} {β β' : Blk}

theorem fill_cons {place : Nat → Option (Nat × Nat)} {cells : Array Value} {i off k : Nat} {v : Value} {rest : List (Nat × Value)} (hp : place i = some (off, k)) (hk : v.cells.size = k) (hle : off + k ≤ cells.size) :
    Instr.fill place cells ((i, v) :: rest) = Instr.fill place (cells.toList.take off ++ v.cells.toList ++ cells.toList.drop (off + k)).toArray rest := by
  subst hk
  have hnot : ¬ ((decide (v.cells.size ≠ v.cells.size) || decide (off + v.cells.size > cells.size)) = true) := by simp; omega
  rw [Instr.fill]
  simp only [hp]
  rw [if_neg hnot]
  congr 1
  exact fill_seg cells v.cells off hle

/-- what a list of values reads as -/
def RepL (w : World) (X : Nat → Prop) (h : Heap) (β : Blk) (vs : List Value) (cs : List AV) : Prop := vs.length = cs.length ∧ ∀ (i : Nat) (v : Value) (a : AV), vs[i]? = some v → cs[i]? = some a → RepV w X h β v a
theorem RepL.splice {X : Nat → Prop} {vs us : List Value} {cs ds : List AV} {o k : Nat} (h1 : RepL w X h β vs cs) (h2 : RepL w X h β us ds) (hk : ds.length = k) (ho : o + k ≤ cs.length) :
    RepL w X h β (vs.take o ++ us ++ vs.drop (o + k)) (cs.take o ++ ds ++ cs.drop (o + k)) := by
  obtain ⟨l1, r1⟩ := h1
  obtain ⟨l2, r2⟩ := h2
  refine ⟨by simp [l1, l2], fun i v a hv ha => ?_⟩
  rw [List.append_assoc, List.getElem?_append] at hv ha
  have e1 : (vs.take o).length = o := by rw [List.length_take]; omega
  have e2 : (cs.take o).length = o := by rw [List.length_take]; omega
  rw [e1] at hv
  rw [e2] at ha
  by_cases hi : i < o
  · rw [if_pos hi, List.getElem?_take, if_pos hi] at hv ha
    exact r1 i v a hv ha
  · rw [if_neg hi, List.getElem?_append] at hv ha
    rw [l2] at hv
    by_cases hj : i - o < ds.length
    · rw [if_pos hj] at hv ha
      exact r2 _ v a hv ha
    · rw [if_neg hj, List.getElem?_drop] at hv ha
      exact r1 _ v a hv ha
theorem zcells_rep {X : Nat → Prop} {z : Value} : RepL w X h β z.cells.toList (zcells z) := by
  refine ⟨by simp [zcells], fun i v a hv ha => ?_⟩
  obtain ⟨u, hu, rfl⟩ := zcells_get ha
  have : u = v := by
    have h1 : z.cells.toList[i]? = some u := by simpa using hu
    exact Option.some.inj (h1.symm.trans hv)
  subst this
  exact .c u

/-- A struct type's layout. -/
structure BI (P : Program) (T : TypeId) (pl : Array (Nat × Nat)) : Prop where
  run : ∃ fs, P.underlying T = some (.struct fs) ∧ ∀ w : World, ((fs.mapM fun f => do pure (f.offset, ← sizeOf f.type)) : Sem (Array (Nat × Nat))).run P w = .ok pl w

/-- the parts of a struct literal, over the zeros -/
inductive FillA (t : Nat → AV) (pl : Array (Nat × Nat)) : List AV → List (Nat × Operand) → List AV → List (Nat × AV) → Prop
  | nil (cs : List AV) : FillA t pl cs [] cs []
  | cons {f off k : Nat} {x : Operand} {a : AV} {cs ds cs' res : List AV} {l : List (Nat × Operand)} {rs : List (Nat × AV)} (hp : pl[f]? = some (off, k)) (hx : OpV t x a) (hc : cellsA a = some ds) (hk : ds.length = k) (hle : off + k ≤ cs.length)
      (hn : cs.take off ++ ds ++ cs.drop (off + k) = cs') (r : FillA t pl cs' l res rs) : FillA t pl cs ((f, x) :: l) res (oprs x a ++ rs)
theorem FillA.facts {t : Nat → AV} {pl : Array (Nat × Nat)} {cs res : List AV} {l : List (Nat × Operand)} {rs : List (Nat × AV)} (f : FillA t pl cs l res rs) : ∀ p ∈ rs, t p.1 = p.2 := by
  induction f with
  | nil => intro q hq; cases hq
  | cons hp hx hc hk hle hn r ih => exact fapp hx.facts ih
theorem FillA.fill {t : Nat → AV} {pl : Array (Nat × Nat)} {cs res : List AV} {l : List (Nat × Operand)} {rs : List (Nat × AV)} (f : FillA t pl cs l res rs) {τ : St} {a : Act} {w : World} {β : Blk} (S : Sim C τ a w β) :
    (∀ p ∈ rs, τ.t p.1 = p.2) → ∀ vs : Array Value, RepL w C.X τ.h β vs.toList cs → ∃ us : Array Value, Instr.fill (pl[·]?) vs (l.map fun p => (p.1, a.eval p.2)) = some us ∧ RepL w C.X τ.h β us.toList res := by
  induction f with
  | nil cs => exact fun _ vs hv => ⟨vs, rfl, hv⟩
  | cons hp hx hc hk hle hn r ih =>
    rename_i f off k x av cs ds cs' res l rs
    intro hf vs hv
    obtain ⟨h1, h2⟩ := cellsA_rep (hx.rep (fl hf) S) hc
    have hv' : RepL w C.X τ.h β ((a.eval x).cells.toList) ds := ⟨by simpa using h1, fun i v b hi hb => h2 i v b (by simpa using hi) hb⟩
    have hs := hv.splice hv' hk hle
    rw [hn] at hs
    rw [List.map_cons, fill_cons hp (by rw [h1, hk]) (by have := hv.1; rw [Array.length_toList] at this; omega)]
    exact ih (fr hf) _ (by simpa using hs)

section
variable {d : Nat} {ty : TypeId} {pos : String} {af : Array Edge} {x y : Operand} {av bv : AV}
theorem s_build {T : TypeId} {agg : Bool} {sz : Nat} {z : Value} {bytes : Nat} {pl : Array (Nat × Nat)} {l : List (Nat × Operand)} {res : List AV} {rs : List (Nat × AV)} (hd : d < C.n) (hT : TI P T agg sz z bytes) (hB : BI P T pl) (hf : FillA σ.t pl (zcells z) l res rs) :
    Step P C ops ⟨some d, .build T l.toArray, ty, pos, af, none⟩ σ ⟨rs, [], some d, .agg res, []⟩ := by
  refine ⟨OpSem.val rfl (someLt hd) rfl rfl fun τ a w β hff S => ?_, facts_of hf.facts rfl⟩
  obtain ⟨us, hu, hr⟩ := hf.fill S hff.1 z.cells zcells_rep
  obtain ⟨fs, h1, h2⟩ := hB.run
  refine ⟨.agg us, ?_, .agg us res (by have := hr.1; simpa using this) (fun i v b hi hb => hr.2 i v b (by simpa using hi) hb)⟩
  simp only [execOp, Instr.build, Sem.run_bind, hT.zero, Result.andThen_ok, run_underlying h1, h2, hu, Sem.run_pure, List.map_toArray]

/-- a literal of a slice: all elements given -/
theorem fill_parts {t : Nat → AV} {sz : Nat} {τ : St} {a : Act} {w : World} {β : Blk} (S : Sim C τ a w β) {i : Nat} {l : List (Nat × Operand)} {es : List (List AV)} {rs : List (Nat × AV)} (p : Parts t i l es rs) (hes : ∀ e ∈ es, e.length = sz) :
    (∀ q ∈ rs, τ.t q.1 = q.2) → ∀ (cs : Array Value) (done : List Value), done.length = i * sz → cs.size = (i + es.length) * sz → cs.toList.take (i * sz) = done →
      ∃ us : Array Value, Instr.fill (fun i => some (i * sz, sz)) cs (l.map fun p => (p.1, a.eval p.2)) = some us ∧ us.toList.take (i * sz) = done ∧ us.size = cs.size ∧
        ∀ (j m : Nat) (e : List AV) (b : AV), es[j]? = some e → e[m]? = some b → ∃ u, us[(i + j) * sz + m]? = some u ∧ RepV w C.X τ.h β u b := by
  induction p with
  | nil i => exact fun _ cs done h1 h2 h3 => ⟨cs, rfl, h3, rfl, fun j m e b he => by simp at he⟩
  | cons hx hc r ih =>
    rename_i i x av ds l es rs
    intro hf cs done h1 h2 h3
    obtain ⟨g1, g2⟩ := cellsA_rep (hx.rep (fl hf) S) hc
    have hds : ds.length = sz := hes ds List.mem_cons_self
    have hsz : cs.size = i * sz + sz + es.length * sz := by rw [h2, List.length_cons, Nat.add_mul, Nat.add_mul]; omega
    have hcl : cs.toList.length = cs.size := Array.length_toList
    have hvl : (a.eval x).cells.toList.length = sz := by rw [Array.length_toList, g1, hds]
    have hle : i * sz + sz ≤ cs.size := by omega
    rw [List.map_cons, fill_cons (off := i * sz) (k := sz) rfl (by rw [g1, hds]) hle]
    obtain ⟨us, e1, e2, e3, e4⟩ := ih (fun e he => hes e (List.mem_cons_of_mem _ he)) (fr hf) (cs.toList.take (i * sz) ++ (a.eval x).cells.toList ++ cs.toList.drop (i * sz + sz)).toArray (done ++ (a.eval x).cells.toList)
      (by rw [List.length_append, h1, hvl, Nat.add_mul, Nat.one_mul]) (by simp [h1, h2, h3, hvl, Nat.add_mul, List.length_drop]; omega) (by
        rw [Nat.add_mul, Nat.one_mul]
        simp only [h3]
        rw [List.take_append_of_le_length (by rw [List.length_append, h1, hvl]; omega), List.take_of_length_le (by rw [List.length_append, h1, hvl]; omega)])
    have hus : us.size = cs.size := by rw [e3]; simp [hvl, List.length_drop, List.length_take]; omega
    refine ⟨us, e1, ?_, hus, fun j m e b he hb => ?_⟩
    · have := congrArg (List.take (i * sz)) e2
      rw [List.take_take, Nat.min_eq_left (by rw [Nat.add_mul]; omega), List.take_append_of_le_length (by omega), List.take_of_length_le (l := done) (by omega)] at this
      exact this
    · cases j with
      | zero =>
        obtain rfl : ds = e := by simpa using he
        have hm : m < ds.length := (List.getElem?_eq_some_iff.1 hb).1
        have hm' : m < (a.eval x).cells.size := by omega
        refine ⟨(a.eval x).cells[m], ?_, g2 m _ b (by simp [hm']) hb⟩
        have := congrArg (fun l => l[i * sz + m]?) e2
        simp only [List.getElem?_take] at this
        rw [if_pos (by rw [Nat.add_mul]; omega), List.getElem?_append_right (by omega), h1, Nat.add_sub_cancel_left] at this
        rw [Nat.add_zero]
        simpa [hm'] using this
      | succ j =>
        rw [List.getElem?_cons_succ] at he
        obtain ⟨u, hu, hr⟩ := e4 j m e b he hb
        exact ⟨u, by rw [show i + (j + 1) = i + 1 + j from by omega]; exact hu, hr⟩
theorem s_bslice {T E : TypeId} {agg : Bool} {sz : Nat} {z : Value} {bytes n : Nat} {B : Box} {l : List (Nat × Operand)} {es : List (List AV)} {rs : List (Nat × AV)} (hd : d < C.n) (ht : P.underlying T = some (.slice E)) (hE : TI P E agg sz z bytes)
    (hp : Parts σ.t 0 l es rs) (hn : es.length = n) (hes : ∀ e ∈ es, e.length = sz) (hbig : n * sz ≤ 2 ^ 24) (hB : σ.h (.loc d) = B) :
    Step P C ops ⟨some d, .buildSlice T n l.toArray, ty, pos, af, none⟩ σ ⟨rs, [(.loc d, B)], some d, .own (.loc d) (B.ver + 1) n, [(.loc d, ⟨B.ver + 1, true, E, sz, es⟩)]⟩ := by
  subst hn
  refine ⟨OpSem.new rfl rfl hd (fun τ hf => congrArg Box.ver (hf (.loc d, B) List.mem_cons_self)) fun τ a w β hf S => ?_, ⟨hp.facts, fun p hp => by rw [List.mem_singleton.1 hp]; exact hB⟩⟩
  have hspos := hE.pos
  obtain ⟨us, h1, _, h3, h4⟩ := fill_parts S hp hes hf.1 ((Array.range (es.length * sz)).map (z.cells[· % z.cells.size]!)) [] (by simp) (by simp) (by simp)
  have hus : us.size = es.length * sz := by rw [h3]; simp
  refine ⟨us, es.length, .slice (some ⟨w.heap.size, 0, none⟩) es.length es.length, ?_, hus, ?_, Nat.le_refl _, hes, fun i j e b he hb => ?_, fun h' β' e1 e2 e3 => ?_⟩
  · have hb2 : ¬ 2 ^ 24 < es.length * sz := by omega
    simp only [execOp, Instr.buildSlice, Sem.run_bind, run_underlying ht, hE.size, Result.andThen_ok]
    rw [if_neg (by omega)]
    by_cases hne : es.length * sz = 0
    · rw [if_pos hne]
      have e0 : ∀ g : Nat → Value, (Array.range (es.length * sz)).map g = #[] := fun g => by rw [hne]; simp
      rw [e0] at h1
      simp only [pure_bind, e0]
      simp [h1, newRow]
    · rw [if_neg hne]
      simp only [Sem.run_bind, hE.zero, Result.andThen_ok, Sem.run_pure, pure_bind]
      simp [h1, newRow]
  · have h2 : es.length ≤ es.length * sz := Nat.le_mul_of_pos_right _ hspos
    have : (2 : Nat) ^ 24 ≤ maxLen := by decide
    omega
  · obtain ⟨u, hu, hr⟩ := h4 i j e b he hb
    exact ⟨u, by rw [Nat.zero_add] at hu; exact hu, hr⟩
  · exact .own _ _ _ _ rfl (by rw [e1]; exact Nat.le_refl _) (fun _ _ => .inl ⟨w.heap.size, e2, by rw [e3], by rw [e3]; exact Nat.le_refl _⟩)
end

end Go.Proofs.YtpbjbnghcbcdiaaDoor.AM
