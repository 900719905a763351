/- The abstract machine, part 5: memory that is made and written: variables, rows, stores, append. Conditions: none. -/
import Derived.Test.YtpbjbnghcbcdiaaDoorAm4
import Derived.Laws.CopyRow
import Derived.Maps.AppendAt
set_option linter.unusedVariables false
namespace Go.Proofs.YtpbjbnghcbcdiaaDoor.AM
open Go

variable {P : Program} {C : Ctx} {ops : Array Oper} {σ : St} {w w' : World} {h : Heap} {β β' : Blk}

/-- What another box holds goes on, if its block stays. -/
theorem HB.keep {X : Nat → Prop} {h' : Heap} (E : Ext w X h β w' X h' β') {s : Site} (hs : h' s = h s) (hb : β'.b s = β.b s) (hc : β'.cap s = β.cap s) (hm : ∀ b, β.b s = some b → w'.heap[b]? = w.heap[b]?) (r : HB w X h β s) : HB w' X h' β' s := by
  unfold HB at *
  rw [hs, hb, hc]
  rcases r with r | ⟨b, cur, h0, h1, h2, h3, h4, h5, h6⟩
  · exact .inl r
  · refine .inr ⟨b, cur, h0, (hm b h0).trans h1, h2, h3, h4, h5, fun i j e a he ha => ?_⟩
    obtain ⟨u, hu, hr⟩ := h6 i j e a he ha
    exact ⟨u, hu, hr.ext E⟩

def Blk.set (β : Blk) (s : Site) (b : Option Nat) (c : Nat) : Blk := ⟨fun s' => if s' = s then b else β.b s', fun s' => if s' = s then c else β.cap s'⟩
theorem Blk.set_b (β : Blk) (s b c) : (β.set s b c).b s = b := by simp [Blk.set]
theorem Blk.set_cap (β : Blk) (s b c) : (β.set s b c).cap s = c := by simp [Blk.set]
theorem Blk.set_b_ne (β : Blk) {s s' : Site} (b c) (hne : s' ≠ s) : (β.set s b c).b s' = β.b s' := by simp [Blk.set, hne]
theorem Blk.set_cap_ne (β : Blk) {s s' : Site} (b c) (hne : s' ≠ s) : (β.set s b c).cap s' = β.cap s' := by simp [Blk.set, hne]

/-- A new block for a box. -/
theorem Sim.newBox {τ : St} {a : Act} (S : Sim C τ a w β) (s : Site) (T : TypeId) (sz cap : Nat) (vs : Array Value) (es : List (List AV)) (hsz : vs.size = cap * sz) (hml : cap ≤ maxLen) (hle : es.length ≤ cap) (hes : ∀ e ∈ es, e.length = sz)
    (hr : ∀ (i j : Nat) (e : List AV) (a : AV), es[i]? = some e → e[j]? = some a → ∃ u, vs[i * sz + j]? = some u ∧ RepV w C.X τ.h β u a) {d : Option Nat} (hd : ∀ k, d = some k → k < C.n) {v : Value} {av : AV}
    (hv : RepV (w.alloc (.cells vs T)) C.X (hupd τ.h s ⟨(τ.h s).ver + 1, true, T, sz, es⟩) (β.set s (some w.heap.size) cap) v av) :
    Sim C ⟨updO τ.t d av, hupd τ.h s ⟨(τ.h s).ver + 1, true, T, sz, es⟩⟩ (a.put d v) (w.alloc (.cells vs T)) (β.set s (some w.heap.size) cap) := by
  have hfree : C.free w.heap.size := C.hfree _ S.keep.size
  have hblt : ∀ s' b, (τ.h s').live = true → β.b s' = some b → b < w.heap.size := fun s' b hl hb => by
    rcases S.hp.live s' hl with ⟨h0, _⟩ | ⟨b', cur, h0, h1, _⟩
    · rw [hb] at h0; cases h0
    · obtain rfl : b = b' := by rw [hb] at h0; exact Option.some.inj h0
      exact (Array.getElem?_eq_some_iff.1 h1).1
  have hal : ∀ k, k < w.heap.size → (w.alloc (.cells vs T)).heap[k]? = w.heap[k]? := fun k hk => RowKit.Below.heap_alloc _ _ _ hk
  have E : Ext w C.X τ.h β (w.alloc (.cells vs T)) C.X (hupd τ.h s ⟨(τ.h s).ver + 1, true, T, sz, es⟩) (β.set s (some w.heap.size) cap) := by
    refine ⟨by simp, fun b hb ho => ⟨hal b hb, ho.1, fun s' hl hb' => ?_⟩, fun s' => ?_, fun s' hver hl => ?_⟩
    · by_cases hs : s' = s
      · subst hs; rw [Blk.set_b] at hb'; injection hb' with hb'; omega
      · rw [hupd_ne _ _ hs] at hl; rw [Blk.set_b_ne _ _ _ hs] at hb'; exact ho.2 s' hl hb'
    · by_cases hs : s' = s
      · subst hs; rw [hupd_same]; exact Nat.le_succ _
      · rw [hupd_ne _ _ hs]; exact Nat.le_refl _
    · by_cases hs : s' = s
      · subst hs; rw [hupd_same] at hver; exact absurd hver (by simp)
      · rw [hupd_ne _ _ hs] at hl ⊢; exact ⟨hl, rfl, Blk.set_b_ne _ _ _ hs, Blk.set_cap_ne _ _ _ hs⟩
  refine S.put E ⟨fun s' hl => ?_, fun s1 s2 b h1 h2 e1 e2 => ?_, fun s' b hl hb => ?_⟩ (fun s' b hl hb => ?_) ⟨rfl, rfl, rfl, by simp, fun k hk _ => hal k hk⟩ hd hv
  · by_cases hs : s' = s
    · subst hs
      refine .inr ⟨w.heap.size, vs, Blk.set_b _ _ _ _, ?_, ?_, ?_, ?_, ?_, ?_⟩
      · rw [hupd_same]; exact heap_alloc_new w _
      · rw [hupd_same, Blk.set_cap]; exact hsz
      · rw [Blk.set_cap]; exact hml
      · rw [hupd_same, Blk.set_cap]; exact hle
      · rw [hupd_same]; exact hes
      · rw [hupd_same]
        intro i j e a he ha
        obtain ⟨u, hu, hr⟩ := hr i j e a he ha
        exact ⟨u, hu, hr.ext E⟩
    · rw [hupd_ne _ _ hs] at hl
      refine HB.keep E (hupd_ne _ _ hs) (Blk.set_b_ne _ _ _ hs) (Blk.set_cap_ne _ _ _ hs) (fun b hb => hal b (hblt s' b hl hb)) (S.hp.live s' hl)
  · by_cases hs1 : s1 = s <;> by_cases hs2 : s2 = s
    · rw [hs1, hs2]
    · subst hs1
      rw [Blk.set_b] at e1; rw [Blk.set_b_ne _ _ _ hs2] at e2; rw [hupd_ne _ _ hs2] at h2
      have := hblt s2 b h2 e2; injection e1 with e1; omega
    · subst hs2
      rw [Blk.set_b] at e2; rw [Blk.set_b_ne _ _ _ hs1] at e1; rw [hupd_ne _ _ hs1] at h1
      have := hblt s1 b h1 e1; injection e2 with e2; omega
    · rw [Blk.set_b_ne _ _ _ hs1] at e1; rw [Blk.set_b_ne _ _ _ hs2] at e2; rw [hupd_ne _ _ hs1] at h1; rw [hupd_ne _ _ hs2] at h2
      exact S.hp.inj s1 s2 b h1 h2 e1 e2
  · by_cases hs : s' = s
    · subst hs; rw [Blk.set_b] at hb; injection hb with hb; subst hb; exact fun hx => C.hX _ hx hfree
    · rw [hupd_ne _ _ hs] at hl; rw [Blk.set_b_ne _ _ _ hs] at hb; exact S.hp.bar s' b hl hb
  · by_cases hs : s' = s
    · subst hs; rw [Blk.set_b] at hb; injection hb with hb; subst hb; exact hfree
    · rw [hupd_ne _ _ hs] at hl; rw [Blk.set_b_ne _ _ _ hs] at hb; exact S.fr s' b hl hb

/-- An operation that makes a box at its own slot's site. -/
theorem OpSem.new {o : Oper} {rs : List (Nat × AV)} {rh : List (Site × Box)} {d : Nat} {T : TypeId} {sz : Nat} {es : List (List AV)} {av : AV} {ver : Nat} (hg : o.guard = none) (hod : o.dst = some d) (hd : d < C.n)
    (hrh : ∀ τ : St, (∀ p ∈ rh, τ.h p.1 = p.2) → (τ.h (.loc d)).ver = ver)
    (hr : ∀ (τ : St) (a : Act) (w : World) (β : Blk), OpD.facts ⟨rs, rh, some d, av, []⟩ τ → Sim C τ a w β → ∃ vs cap v, (execOp a.eval o).run P w = .ok (.value v) (w.alloc (.cells vs T)) ∧ vs.size = cap * sz ∧ cap ≤ maxLen ∧ es.length ≤ cap ∧ (∀ e ∈ es, e.length = sz) ∧
      (∀ (i j : Nat) (e : List AV) (a : AV), es[i]? = some e → e[j]? = some a → ∃ u, vs[i * sz + j]? = some u ∧ RepV w C.X τ.h β u a) ∧
      (∀ h' β', h' (.loc d) = ⟨ver + 1, true, T, sz, es⟩ → β'.b (.loc d) = some w.heap.size → β'.cap (.loc d) = cap → RepV (w.alloc (.cells vs T)) C.X h' β' v av)) :
    OpSem P C ops o ⟨rs, rh, some d, av, [(.loc d, ⟨ver + 1, true, T, sz, es⟩)]⟩ := by
  intro τ a w β hf S K Q hK
  have hver := hrh τ hf.2
  obtain ⟨vs, cap, v, hrun, h1, h2, h3, h4, h5, h6⟩ := hr τ a w β hf S
  rw [if_pos (by simp [Region.wanted, hg])]
  unfold Oper.wp
  rw [hrun]
  show K (a.put o.dst v) _
  rw [hod]
  subst hver
  exact hK _ _ _ (S.newBox (.loc d) T sz cap vs es h1 h2 h3 h4 h5 (someLt hd) (h6 _ _ (hupd_same _ _ _) (Blk.set_b _ _ _ _) (Blk.set_cap _ _ _ _)))

theorem zcells_get {z : Value} {j : Nat} {a : AV} (h : (zcells z)[j]? = some a) : ∃ u, z.cells[j]? = some u ∧ a = .c u := by
  unfold zcells at h
  rw [List.getElem?_map] at h
  cases hz : z.cells.toList[j]? with
  | none => rw [hz] at h; cases h
  | some u => rw [hz] at h; exact ⟨u, by simpa using hz, (Option.some.inj h).symm⟩

section
variable {d : Nat} {ty : TypeId} {pos : String} {af : Array Edge} {x y : Operand} {av bv : AV}
theorem s_alloc {T : TypeId} {agg : Bool} {sz : Nat} {z : Value} {bytes : Nat} {B : Box} (hd : d < C.n) (hT : TI P T agg sz z bytes) (hB : σ.h (.loc d) = B) :
    Step P C ops ⟨some d, .alloc T, ty, pos, af, none⟩ σ ⟨[], [(.loc d, B)], some d, .ptr (.loc d) (B.ver + 1) 0 0, [(.loc d, ⟨B.ver + 1, true, T, sz, [zcells z]⟩)]⟩ := by
  refine ⟨OpSem.new rfl rfl hd (fun τ hf => congrArg Box.ver (hf (.loc d, B) List.mem_cons_self)) fun τ a w β hf S => ?_, ⟨fun p hp => (by cases hp), fun p hp => by rw [List.mem_singleton.1 hp]; exact hB⟩⟩
  refine ⟨z.cells, 1, .pointer (some ⟨w.heap.size, 0, none⟩), ?_, by rw [Nat.one_mul]; exact hT.zs, by decide, by simp, fun e he => by rw [List.mem_singleton.1 he]; simp [zcells, hT.zs], fun i j e a' he ha => ?_, fun h' β' e1 e2 e3 => ?_⟩
  · simp [execOp, Instr.alloc, hT.zero, newVar, newRow]
  · have hi : i = 0 := by
      have := (List.getElem?_eq_some_iff.1 he).1
      simpa using this
    subst hi
    obtain rfl : zcells z = e := by simpa using he
    obtain ⟨u, hu, rfl⟩ := zcells_get ha
    exact ⟨u, by simpa using hu, .c u⟩
  · exact .ptr _ _ _ _ _ rfl (by rw [e1]; exact Nat.le_refl _) (fun _ _ => ⟨w.heap.size, e2, by simp⟩)

/-- the cells of a value that is put into memory -/
def cellsA : AV → Option (List AV)
  | .agg cs => some cs
  | .c (.agg _) => none
  | .c (.tuple _) => none
  | .tup _ => none
  | .junk => none
  | a => some [a]
def oneA : AV → Bool
  | .c v => v.oneCell'
  | .agg _ | .tup _ | .junk => false
  | _ => true
theorem oneA_rep {X : Nat → Prop} {u : Value} {a : AV} (r : RepV w X h β u a) (ho : oneA a = true) : u.oneCell' = true := by
  cases r <;> first | exact ho | rfl | assumption | (simp [oneA] at ho; done)
theorem one_cells {u : Value} (h : u.oneCell' = true) : u.cells = #[u] := by
  cases u <;> first | rfl | (simp [Value.oneCell'] at h; done)
theorem cellsA_rep {X : Nat → Prop} {u : Value} {a : AV} {cs : List AV} (r : RepV w X h β u a) (hc : cellsA a = some cs) : u.cells.size = cs.length ∧ ∀ (i : Nat) (v : Value) (b : AV), u.cells[i]? = some v → cs[i]? = some b → RepV w X h β v b := by
  by_cases hagg : ∃ ds, a = .agg ds
  · obtain ⟨ds, rfl⟩ := hagg
    cases r with
    | agg vs ds h1 h2 => obtain rfl := Option.some.inj hc; exact ⟨h1, h2⟩
  · have h1 : u.oneCell' = true ∧ cs = [a] := by
      cases r <;> simp [cellsA] at hc <;> first
        | exact ⟨rfl, hc.symm⟩
        | exact ⟨by assumption, hc.symm⟩
        | exact absurd ⟨_, rfl⟩ hagg
        | (cases u <;> simp at hc <;> exact ⟨rfl, hc.symm⟩)
    obtain ⟨h1, rfl⟩ := h1
    rw [one_cells h1]
    refine ⟨rfl, fun i v b hi hb => ?_⟩
    have hi0 : i = 0 := by
      have := (Array.getElem?_eq_some_iff.1 hi).1
      simpa using this
    subst hi0
    obtain rfl : u = v := by simpa using hi
    obtain rfl : a = b := by simpa using hb
    exact r
theorem s_box {T : TypeId} {agg : Bool} {sz : Nat} {z : Value} {bytes : Nat} {B : Box} {cs : List AV} (hd : d < C.n) (hx : OpV σ.t x av) (hc : cellsA av = some cs) (hT : TI P T agg sz z bytes) (hz : cs.length = sz) (hB : σ.h (.loc d) = B) :
    Step P C ops ⟨some d, .box T x, ty, pos, af, none⟩ σ ⟨oprs x av, [(.loc d, B)], some d, .ptr (.loc d) (B.ver + 1) 0 0, [(.loc d, ⟨B.ver + 1, true, T, sz, [cs]⟩)]⟩ := by
  refine ⟨OpSem.new rfl rfl hd (fun τ hf => congrArg Box.ver (hf (.loc d, B) List.mem_cons_self)) fun τ a w β hf S => ?_, ⟨hx.facts, fun p hp => by rw [List.mem_singleton.1 hp]; exact hB⟩⟩
  obtain ⟨h1, h2⟩ := cellsA_rep (hx.rep hf.1 S) hc
  refine ⟨(a.eval x).cells, 1, .pointer (some ⟨w.heap.size, 0, none⟩), ?_, by rw [Nat.one_mul, h1]; exact hz, by decide, by simp, fun e he => by rw [List.mem_singleton.1 he]; exact hz, fun i j e a' he ha => ?_, fun h' β' e1 e2 e3 => ?_⟩
  · simp [execOp, Instr.box, newVar, newRow]
  · have hi : i = 0 := by
      have := (List.getElem?_eq_some_iff.1 he).1
      simpa using this
    subst hi
    obtain rfl : cs = e := by simpa using he
    have hj : j < (a.eval x).cells.size := by rw [h1]; exact (List.getElem?_eq_some_iff.1 ha).1
    refine ⟨(a.eval x).cells[j], by simp, h2 j _ _ (by simp [hj]) ha⟩
  · exact .ptr _ _ _ _ _ rfl (by rw [e1]; exact Nat.le_refl _) (fun _ _ => ⟨w.heap.size, e2, by simp⟩)
end

/-! ### a literal row -/
/-- the parts of a literal, in order, each a whole element -/
inductive Parts (t : Nat → AV) : Nat → List (Nat × Operand) → List (List AV) → List (Nat × AV) → Prop
  | nil (i : Nat) : Parts t i [] [] []
  | cons {i : Nat} {x : Operand} {a : AV} {cs : List AV} {l : List (Nat × Operand)} {es : List (List AV)} {rs : List (Nat × AV)} (hx : OpV t x a) (hc : cellsA a = some cs) (r : Parts t (i + 1) l es rs) : Parts t i ((i, x) :: l) (cs :: es) (oprs x a ++ rs)
theorem Parts.facts {t : Nat → AV} {i : Nat} {l : List (Nat × Operand)} {es : List (List AV)} {rs : List (Nat × AV)} (p : Parts t i l es rs) : ∀ q ∈ rs, t q.1 = q.2 := by
  induction p with
  | nil => intro q hq; cases hq
  | cons hx hc r ih => exact fapp hx.facts ih
theorem Parts.len {t : Nat → AV} {i : Nat} {l : List (Nat × Operand)} {es : List (List AV)} {rs : List (Nat × AV)} (p : Parts t i l es rs) : l.length = es.length := by
  induction p with
  | nil => rfl
  | cons _ _ _ ih => simp [ih]
/-- writing one element over the zeros -/
theorem fill_seg (cs : Array Value) (vs : Array Value) (o : Nat) (h : o + vs.size ≤ cs.size) : (vs.zipIdx.foldl (fun cs (p : Value × Nat) => cs.setIfInBounds (o + p.2) p.1) cs) = (cs.toList.take o ++ vs.toList ++ cs.toList.drop (o + vs.size)).toArray := by
  apply Array.ext'
  have key : ∀ (l : List Value) (k : Nat) (cs : Array Value), o + k + l.length ≤ cs.size → ((l.zipIdx k).foldl (fun cs (p : Value × Nat) => cs.setIfInBounds (o + p.2) p.1) cs).toList = cs.toList.take (o + k) ++ l ++ cs.toList.drop (o + k + l.length) := by
    intro l
    induction l with
    | nil => intro k cs _; simp
    | cons v l ih =>
      intro k cs hk
      simp only [List.length_cons] at hk
      rw [List.zipIdx_cons, List.foldl_cons, ih (k + 1) _ (by simp; omega)]
      have e := list_seg_step cs.toList (o + k) v l (by simp; omega)
      rw [Array.toList_setIfInBounds]
      simpa [Nat.add_assoc] using e
  have := key vs.toList 0 cs (by simpa using h)
  rw [← Array.foldl_toList]
  simpa using this
end Go.Proofs.YtpbjbnghcbcdiaaDoor.AM
