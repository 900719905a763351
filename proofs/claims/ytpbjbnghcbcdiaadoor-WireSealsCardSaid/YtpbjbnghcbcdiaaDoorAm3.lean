/- The abstract machine, part 3: what each operation that only reckons or reads does. Conditions: none. -/
import Derived.Test.YtpbjbnghcbcdiaaDoorAm2
import Derived.Laws.Slices
import Derived.Laws.Build
import Derived.Laws.Small
import Derived.Laws.BytesArg
import Derived.WideLaws
set_option linter.unusedVariables false
namespace Go.Proofs.YtpbjbnghcbcdiaaDoor.AM
open Go

variable {P : Program} {C : Ctx} {ops : Array Oper} {σ : St}
theorem eqGuard_held (op : BinOp) (T : TypeId) (x y : Operand) (t : TypeId) (v b : Value) : eqGuard op T x y (.iface t v) b = pure () := by cases op <;> rfl

/-! ### what the tables say of a type -/
def aggOf (P : Program) (T : TypeId) : Option Bool := (P.underlying T).map fun d => match d with | .struct _ | .array _ _ => true | _ => false
structure TI (P : Program) (T : TypeId) (agg : Bool) (sz : Nat) (z : Value) (bytes : Nat) : Prop where
  info : (P.info? T).map (fun i => (i.zero, i.size, i.bytes)) = some (some z, sz, bytes)
  un : aggOf P T = some agg
  zs : z.cells.size = sz
  pos : 0 < sz
  bpos : 0 < bytes
theorem TI.get {T agg sz z bytes} (h : TI P T agg sz z bytes) : ∃ i, P.info? T = some i ∧ i.zero = some z ∧ i.size = sz ∧ i.bytes = bytes := by
  obtain ⟨i, hi, he⟩ := Option.map_eq_some_iff.1 h.info
  simp only [Prod.mk.injEq] at he
  exact ⟨i, hi, he.1, he.2.1, he.2.2⟩
theorem TI.size {T agg sz z bytes} (h : TI P T agg sz z bytes) (w : World) : (sizeOf T).run P w = .ok sz w := by
  obtain ⟨i, hi, _, hs, _⟩ := h.get
  simp [sizeOf, typeInfo, hi, hs]
theorem TI.zero {T agg sz z bytes} (h : TI P T agg sz z bytes) (w : World) : (zeroValue T).run P w = .ok z w := by
  obtain ⟨i, hi, hz, _, _⟩ := h.get
  simp [zeroValue, typeInfo, hi, hz]
theorem TI.agg {T agg sz z bytes} (h : TI P T agg sz z bytes) (w : World) : (isAgg T).run P w = .ok agg w := by
  have h1 := h.un
  unfold aggOf at h1
  obtain ⟨d, hd, he⟩ := Option.map_eq_some_iff.1 h1
  subst he
  unfold isAgg
  rw [Sem.run_bind, run_underlying hd]
  cases d <;> simp
def zcells (z : Value) : List AV := z.cells.toList.map .c

/-! ### operands -/
inductive OpV (t : Nat → AV) : Operand → AV → Prop
  | tmp {i : Nat} {a : AV} (h : t i = a) : OpV t (.tmp i) a
  | const (v : Value) : OpV t (.const v) (.c v)
  | func (f : FuncId) : OpV t (.func f) (.fn f [])
def oprs : Operand → AV → List (Nat × AV)
  | .tmp i, a => [(i, a)]
  | _, _ => []
theorem OpV.facts {t : Nat → AV} {x : Operand} {a : AV} (h : OpV t x a) : ∀ p ∈ oprs x a, t p.1 = p.2 := by
  cases h with
  | tmp h => intro p hp; simp [oprs] at hp; subst hp; exact h
  | const v => intro p hp; simp [oprs] at hp
  | func f => intro p hp; simp [oprs] at hp
theorem OpV.rep {t : Nat → AV} {x : Operand} {av : AV} (h : OpV t x av) {τ : St} {a : Act} {w : World} {β : Blk} (hf : ∀ p ∈ oprs x av, τ.t p.1 = p.2) (S : Sim C τ a w β) : RepV w C.X τ.h β (a.eval x) av := by
  cases h with
  | tmp h =>
    rename_i i
    have := hf (i, av) (by simp [oprs])
    have h2 := S.t i
    rw [this] at h2
    exact h2
  | const v => exact .c v
  | func f => exact .fn f #[] [] rfl (fun i v a hv => by simp at hv)

theorem hupds_nil (h : Heap) : hupds h [] = h := rfl

/-- An operation that gives a value and changes nothing. -/
theorem OpSem.val {o : Oper} {x : OpD} (hg : o.guard = none) (hd : ∀ k, o.dst = some k → k < C.n) (hx : x.d = o.dst) (hw : x.wh = [])
    (hr : ∀ (τ : St) (a : Act) (w : World) (β : Blk), x.facts τ → Sim C τ a w β → ∃ v, (execOp a.eval o).run P w = .ok (.value v) w ∧ RepV w C.X τ.h β v x.v) : OpSem P C ops o x := by
  intro τ a w β hf S K Q hK
  obtain ⟨v, hrun, hv⟩ := hr τ a w β hf S
  rw [if_pos (by simp [Region.wanted, hg])]
  unfold Oper.wp
  rw [hrun]
  refine hK _ _ β ?_
  have := S.pure (d := o.dst) hd hv
  simpa [OpD.app, hw, hx, hupds] using this

theorem facts_of {x : OpD} (h1 : ∀ p ∈ x.rs, σ.t p.1 = p.2) (h2 : x.rh = []) : x.facts σ := ⟨h1, by simp [h2]⟩
theorem fapp {p q : List (Nat × AV)} {t : Nat → AV} (h1 : ∀ x ∈ p, t x.1 = x.2) (h2 : ∀ x ∈ q, t x.1 = x.2) : ∀ x ∈ p ++ q, t x.1 = x.2 := by
  intro x hx
  rcases List.mem_append.1 hx with h | h
  · exact h1 x h
  · exact h2 x h
theorem fl {p q : List (Nat × AV)} {t : Nat → AV} (h : ∀ x ∈ p ++ q, t x.1 = x.2) : ∀ x ∈ p, t x.1 = x.2 := fun x hx => h x (List.mem_append_left _ hx)
theorem fr {p q : List (Nat × AV)} {t : Nat → AV} (h : ∀ x ∈ p ++ q, t x.1 = x.2) : ∀ x ∈ q, t x.1 = x.2 := fun x hx => h x (List.mem_append_right _ hx)

section
variable {d : Nat} {ty : TypeId} {pos : String} {af : Array Edge} {x y c : Operand} {av bv : AV}
theorem someLt (hd : d < C.n) : ∀ k, some d = some k → k < C.n := fun k e => by injection e with e; omega

/-- One operand, one value. -/
theorem s_one {op : Op} (hd : d < C.n) (hx : OpV σ.t x av)
    (hr : ∀ (τ : St) (a : Act) (w : World) (β : Blk), Sim C τ a w β → RepV w C.X τ.h β (a.eval x) av → ∃ v, (execOp a.eval ⟨some d, op, ty, pos, af, none⟩).run P w = .ok (.value v) w ∧ RepV w C.X τ.h β v bv) :
    Step P C ops ⟨some d, op, ty, pos, af, none⟩ σ ⟨oprs x av, [], some d, bv, []⟩ :=
  ⟨OpSem.val rfl (someLt hd) rfl rfl fun τ a w β hf S => hr τ a w β S (hx.rep hf.1 S), facts_of hx.facts rfl⟩
/-- Two operands, one value. -/
theorem s_two {op : Op} {cv : AV} (hd : d < C.n) (hx : OpV σ.t x av) (hy : OpV σ.t y bv)
    (hr : ∀ (τ : St) (a : Act) (w : World) (β : Blk), Sim C τ a w β → RepV w C.X τ.h β (a.eval x) av → RepV w C.X τ.h β (a.eval y) bv → ∃ v, (execOp a.eval ⟨some d, op, ty, pos, af, none⟩).run P w = .ok (.value v) w ∧ RepV w C.X τ.h β v cv) :
    Step P C ops ⟨some d, op, ty, pos, af, none⟩ σ ⟨oprs x av ++ oprs y bv, [], some d, cv, []⟩ :=
  ⟨OpSem.val rfl (someLt hd) rfl rfl fun τ a w β hf S => hr τ a w β S (hx.rep (fl hf.1) S) (hy.rep (fr hf.1) S), facts_of (fapp hx.facts hy.facts) rfl⟩

theorem s_move (hd : d < C.n) (hx : OpV σ.t x av) : Step P C ops ⟨some d, .move x, ty, pos, af, none⟩ σ ⟨oprs x av, [], some d, av, []⟩ :=
  s_one hd hx fun τ a w β _ r => ⟨a.eval x, rfl, r⟩
theorem s_assign (hd : d < C.n) (hx : OpV σ.t x av) : Step P C ops ⟨some d, .assign x, ty, pos, af, none⟩ σ ⟨oprs x av, [], some d, av, []⟩ :=
  s_one hd hx fun τ a w β _ r => ⟨a.eval x, rfl, r⟩

theorem RepV.c_inv {w : World} {X : Nat → Prop} {h : Heap} {β : Blk} {u v : Value} (r : RepV w X h β u (.c v)) : u = v := by cases r; rfl

theorem s_pick {b : Bool} {cv : AV} (hd : d < C.n) (hc : OpV σ.t c (.c (.bool b))) (hx : OpV σ.t x av) (hy : OpV σ.t y bv) (hcv : (if b then av else bv) = cv) :
    Step P C ops ⟨some d, .pick c x y, ty, pos, af, none⟩ σ ⟨oprs c (.c (.bool b)) ++ (oprs x av ++ oprs y bv), [], some d, cv, []⟩ := by
  subst hcv
  refine ⟨OpSem.val rfl (someLt hd) rfl rfl fun τ a w β hf S => ?_, facts_of (fapp hc.facts (fapp hx.facts hy.facts)) rfl⟩
  have h0 := (hc.rep (fl hf.1) S).c_inv
  have h1 := hx.rep (fl (fr hf.1)) S
  have h2 := hy.rep (fr (fr hf.1)) S
  refine ⟨if b then a.eval x else a.eval y, ?_, ?_⟩
  · simp [execOp, h0, asBool]
  · cases b <;> simpa

theorem s_not {b r : Bool} (hd : d < C.n) (hx : OpV σ.t x (.c (.bool b))) (hr : (!b) = r) : Step P C ops ⟨some d, .unOp .not 4 x, ty, pos, af, none⟩ σ ⟨oprs x (.c (.bool b)), [], some d, .c (.bool r), []⟩ := by
  subst hr
  exact s_one hd hx fun τ a w β _ r => ⟨.bool !b, by simp [execOp, r.c_inv, Op.unary], .c _⟩
theorem s_xor1 {k : IntKind} {n : Int} {T : TypeId} (hd : d < C.n) (hx : OpV σ.t x (.c (.int k n))) {v : Value} (hv : ∀ w, (Op.intBits .xor k (if k.signed then -1 else k.max) n).run P w = .ok v w) :
    Step P C ops ⟨some d, .unOp .xor T x, ty, pos, af, none⟩ σ ⟨oprs x (.c (.int k n)), [], some d, .c v, []⟩ :=
  s_one hd hx fun τ a w β _ r => ⟨v, by simp [execOp, r.c_inv, Op.unary, hv w], .c _⟩

/-! #### whole numbers -/
def ari : BinOp → IntKind → Int → Int → Option Int
  | .add, k, m, n => some (k.wrap (m + n))
  | .sub, k, m, n => some (k.wrap (m - n))
  | .mul, k, m, n => some (k.wrap (m * n))
  | .quo, k, m, n => if n = 0 then none else some (k.wrap (m.tdiv n))
  | .rem, _, m, n => if n = 0 then none else some (m.tmod n)
  | .and, k, m, n => some (k.wrap (BitVec.ofInt k.bits m &&& BitVec.ofInt k.bits n).toNat)
  | .or, k, m, n => some (k.wrap (BitVec.ofInt k.bits m ||| BitVec.ofInt k.bits n).toNat)
  | .xor, k, m, n => some (k.wrap (BitVec.ofInt k.bits m ^^^ BitVec.ofInt k.bits n).toNat)
  | _, _, _, _ => none
theorem s_ari {op : BinOp} {k : IntKind} {m n r : Int} {T U : TypeId} (hd : d < C.n) (hx : OpV σ.t x (.c (.int k m))) (hy : OpV σ.t y (.c (.int k n))) (hr : ari op k m n = some r) :
    Step P C ops ⟨some d, .binOp op T x y U, ty, pos, af, none⟩ σ ⟨oprs x (.c (.int k m)) ++ oprs y (.c (.int k n)), [], some d, .c (.int k r), []⟩ :=
  s_two hd hx hy fun τ a w β _ r1 r2 => by
    refine ⟨.int k r, ?_, .c _⟩
    cases op <;> simp only [ari] at hr <;> first | (cases hr; done) | skip
    all_goals simp only [execOp, r1.c_inv, r2.c_inv, eqGuard, binOp]
    all_goals first
      | (obtain rfl := Option.some.inj hr; simp [Op.intArith, Op.intBits]; done)
      | (split at hr
         · cases hr
         · rename_i hn; obtain rfl := Option.some.inj hr; simp [Op.intDiv, hn])
theorem s_shift {op : BinOp} {k k' : IntKind} {m n r : Int} {T U : TypeId} (hd : d < C.n) (hx : OpV σ.t x (.c (.int k m))) (hy : OpV σ.t y (.c (.int k' n))) (h0 : 0 ≤ n)
    (hr : (match op with | .shl => some (k.wrap (m * 2 ^ (min n.toNat k.bits))) | .shr => some (m.fdiv (2 ^ (min n.toNat k.bits))) | _ => none) = some r) :
    Step P C ops ⟨some d, .binOp op T x y U, ty, pos, af, none⟩ σ ⟨oprs x (.c (.int k m)) ++ oprs y (.c (.int k' n)), [], some d, .c (.int k r), []⟩ :=
  s_two hd hx hy fun τ a w β _ r1 r2 => by
    refine ⟨.int k r, ?_, .c _⟩
    cases op <;> simp only [] at hr <;> first | (cases hr; done) | skip
    all_goals obtain rfl := Option.some.inj hr
    all_goals simp [execOp, r1.c_inv, r2.c_inv, eqGuard, binOp, Op.shift, show ¬ n < 0 from by omega]
def cmpB : BinOp → Int → Int → Option Bool
  | .eql, m, n => some (m == n)
  | .neq, m, n => some (m != n)
  | .lss, m, n => some (decide (m < n))
  | .leq, m, n => some (decide (m ≤ n))
  | .gtr, m, n => some (decide (n < m))
  | .geq, m, n => some (decide (n ≤ m))
  | _, _, _ => none
theorem s_cmp {op : BinOp} {k : IntKind} {m n : Int} {b : Bool} {T U : TypeId} (hd : d < C.n) (hx : OpV σ.t x (.c (.int k m))) (hy : OpV σ.t y (.c (.int k n))) (hr : cmpB op m n = some b) :
    Step P C ops ⟨some d, .binOp op T x y U, ty, pos, af, none⟩ σ ⟨oprs x (.c (.int k m)) ++ oprs y (.c (.int k n)), [], some d, .c (.bool b), []⟩ :=
  s_two hd hx hy fun τ a w β _ r1 r2 => by
    refine ⟨.bool b, ?_, .c _⟩
    cases op <;> simp only [cmpB] at hr <;> first | (cases hr; done) | skip
    all_goals obtain rfl := Option.some.inj hr
    all_goals simp [execOp, r1.c_inv, r2.c_inv, eqGuard, binOp, Op.intCmp]
theorem s_cnv {S T : TypeId} {k k' : IntKind} {n r : Int} (hd : d < C.n) (hx : OpV σ.t x (.c (.int k n))) (hs : (P.underlying S).isSome = true) (ht : P.underlying T = some (.int k')) (hr : k'.wrap n = r) :
    Step P C ops ⟨some d, .convert S T x, ty, pos, af, none⟩ σ ⟨oprs x (.c (.int k n)), [], some d, .c (.int k' r), []⟩ := by
  subst hr
  exact s_one hd hx fun τ a w β _ r => ⟨.int k' (k'.wrap n), by
    obtain ⟨u, hu⟩ := Option.isSome_iff_exists.1 hs
    simp [execOp, r.c_inv, convert, run_underlying hu, run_underlying ht, Conv.intToInt], .c _⟩
/-! #### interfaces -/
def mkI (T : TypeId) : AV → AV
  | .c v => .c (.iface T v)
  | a => .ifc T a
theorem s_mkif {T : TypeId} (hd : d < C.n) (hx : OpV σ.t x av) (hT : P.concrete T = true) (hb : mkI T av = bv) : Step P C ops ⟨some d, .makeInterface T x, ty, pos, af, none⟩ σ ⟨oprs x av, [], some d, bv, []⟩ := by
  subst hb
  refine s_one hd hx fun τ a w β _ r => ⟨.iface T (a.eval x), by simp [execOp, run_makeInterface w T _ hT], ?_⟩
  cases av <;> first | exact .ifc _ _ _ r | (rw [r.c_inv]; exact .c _)
/-- an interface value against nil -/
def isNil : AV → Option Bool
  | .c .nilIface => some true
  | .c (.iface _ _) => some false
  | .ifc _ _ => some false
  | _ => none
theorem isNil_rep {w : World} {X : Nat → Prop} {h : Heap} {β : Blk} {u : Value} {a : AV} {b : Bool} (r : RepV w X h β u a) (hn : isNil a = some b) : (b = true ∧ u = .nilIface) ∨ (b = false ∧ ∃ t v, u = .iface t v) := by
  cases r with
  | c v =>
    cases u with
    | nilIface => exact .inl ⟨(Option.some.inj hn).symm, rfl⟩
    | iface t v => exact .inr ⟨(Option.some.inj hn).symm, t, v, rfl⟩
    | _ => exact absurd hn (by simp [isNil])
  | ifc T v a h1 => exact .inr ⟨(Option.some.inj hn).symm, T, v, rfl⟩
  | _ => simp [isNil] at hn
theorem s_eqnil {op : BinOp} {T U : TypeId} {b r : Bool} (hd : d < C.n) (hx : OpV σ.t x av) (hn : isNil av = some b) (ht : P.underlying T = some (.interface (P.methodsAt T))) (hop : (match op with | .eql => some b | .neq => some (!b) | _ => none) = some r) :
    Step P C ops ⟨some d, .binOp op T x (.const .nilIface) U, ty, pos, af, none⟩ σ ⟨oprs x av, [], some d, .c (.bool r), []⟩ :=
  s_one hd hx fun τ a w β _ rr => by
    refine ⟨.bool r, ?_, .c _⟩
    have he : (a.eval (.const .nilIface)) = .nilIface := rfl
    rcases isNil_rep rr hn with ⟨rfl, hv⟩ | ⟨rfl, t, v, hv⟩
    · cases op <;> simp only [] at hop <;> first | (cases hop; done) | skip
      all_goals obtain rfl := Option.some.inj hop
      all_goals simp only [execOp, hv, he, eqGuard_nil_constR, run_eql_nil_nil w T ht, run_neq_nil_nil w T ht, Sem.run_bind, Sem.run_pure, Result.andThen_ok]
      all_goals rfl
    · cases op <;> simp only [] at hop <;> first | (cases hop; done) | skip
      all_goals obtain rfl := Option.some.inj hop
      all_goals simp only [execOp, hv, he, eqGuard_held, run_eql_held_nil w T t v ht, run_neq_held_nil w T t v ht, Sem.run_bind, Sem.run_pure, Result.andThen_ok]
      all_goals rfl
/-! #### several results -/
theorem s_extract {cs : List AV} {i : Nat} (hd : d < C.n) (hx : OpV σ.t x (.tup cs)) (hi : cs[i]? = some bv) : Step P C ops ⟨some d, .extract x i, ty, pos, af, none⟩ σ ⟨oprs x (.tup cs), [], some d, bv, []⟩ :=
  s_one hd hx fun τ a w β _ r => by
    generalize he : a.eval x = v at r
    cases r with
    | tup vs cs h1 h2 =>
      have hlt : i < vs.size := by rw [h1]; exact (List.getElem?_eq_some_iff.1 hi).1
      exact ⟨vs[i], by simp [execOp, he, Instr.extract, hlt], h2 i vs[i] bv (by simp [hlt]) hi⟩
theorem s_extract_c {vs : Array Value} {i : Nat} {v : Value} (hd : d < C.n) (hx : OpV σ.t x (.c (.tuple vs))) (hi : vs[i]? = some v) : Step P C ops ⟨some d, .extract x i, ty, pos, af, none⟩ σ ⟨oprs x (.c (.tuple vs)), [], some d, .c v, []⟩ :=
  s_one hd hx fun τ a w β _ r => ⟨v, by simp [execOp, r.c_inv, Instr.extract, hi], .c _⟩
end

/-! ### guards -/
def boolOf : Value → Option Bool
  | .bool b => some b
  | _ => none
theorem yielded_of {τ : St} {a : Act} {w : World} {β : Blk} {j s : Nat} {v : Value} (S : Sim C τ a w β) (hj : (ops[j]?).bind (·.dst) = some s) (hs : s < C.n) (hv : τ.t s = .c v) : yielded ops a.tmps j = boolOf v := by
  have h := S.t s
  rw [hv] at h
  have h1 := h.c_inv
  have h2 : a.tmps[s]? = some v := by
    have : s < a.tmps.size := by rw [S.n]; exact hs
    rw [← h1]; simp [this]
  unfold yielded
  rw [hj]
  simp only [Option.bind_some, h2]
  cases v <;> rfl
theorem g_on {dst : Option Tmp} {op : Op} {ty : TypeId} {pos : String} {af : Array Edge} {j s : Nat} {want : Bool} {x : OpD} (hj : (ops[j]?).bind (·.dst) = some s) (hsn : s < C.n) (hs : σ.t s = .c (.bool want)) (h : Step P C ops ⟨dst, op, ty, pos, af, none⟩ σ x) :
    Step P C ops ⟨dst, op, ty, pos, af, some (j, want)⟩ σ ⟨(s, .c (.bool want)) :: x.rs, x.rh, x.d, x.v, x.wh⟩ := by
  refine ⟨fun τ a w β hf S K Q hK => ?_, ⟨fun p hp => ?_, h.facts.2⟩⟩
  · have hy := yielded_of S hj hsn (hf.1 (s, .c (.bool want)) List.mem_cons_self)
    have := h.sem τ a w β ⟨fun p hp => hf.1 p (List.mem_cons_of_mem _ hp), hf.2⟩ S K Q hK
    rw [if_pos (by simp [Region.wanted])] at this
    rw [if_pos (by simp [Region.wanted, hy, boolOf])]
    exact this
  · rcases List.mem_cons.1 hp with rfl | hp
    · exact hs
    · exact h.facts.1 p hp
theorem g_off {d : Nat} {op : Op} {ty : TypeId} {pos : String} {af : Array Edge} {j s : Nat} {want : Bool} {v : Value} (hd : d < C.n) (hj : (ops[j]?).bind (·.dst) = some s) (hsn : s < C.n) (hs : σ.t s = .c v) (hv : (boolOf v == some want) = false) :
    Step P C ops ⟨some d, op, ty, pos, af, some (j, want)⟩ σ ⟨[(s, .c v)], [], some d, .c undef, []⟩ := by
  refine ⟨fun τ a w β hf S K Q hK => ?_, facts_of (fun p hp => ?_) rfl⟩
  · have hy := yielded_of S hj hsn (hf.1 (s, .c v) List.mem_cons_self)
    rw [if_neg (by simp only [Region.wanted, hy, hv]; exact Bool.false_ne_true)]
    refine hK _ _ β ?_
    exact S.pure (d := some d) (someLt hd) (.c undef)
  · simp at hp; subst hp; exact hs

/-! ### the chain's rules -/
theorem ch_nil : Chain P C ops [] σ [] σ := .nil σ
theorem ch_val {o : Oper} {l : List Oper} {t : Nat → AV} {h : Heap} {σ' : St} {rs rh d v xs} (hs : Step P C ops o ⟨t, h⟩ ⟨rs, rh, some d, v, []⟩) (r : Chain P C ops l ⟨upd t d v, h⟩ xs σ') : Chain P C ops (o :: l) ⟨t, h⟩ (⟨rs, rh, some d, v, []⟩ :: xs) σ' := .cons hs r

/-! ### looking a slot up -/
theorem lk_hit {t : Nat → AV} {i : Nat} {v : AV} : upd t i v i = v := upd_same t i v
theorem lk_miss {t : Nat → AV} {i j : Nat} {v a : AV} (hne : j ≠ i) (h : t j = a) : upd t i v j = a := (upd_ne t v hne).trans h

end Go.Proofs.YtpbjbnghcbcdiaaDoor.AM
