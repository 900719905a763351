/- The abstract machine, part 9: code, calls, contracts. Conditions: none. -/
import Derived.Test.YtpbjbnghcbcdiaaDoorAm8
import Derived.Deep.LoopGhost
set_option linter.unusedVariables false
namespace Go.Proofs.YtpbjbnghcbcdiaaDoor.AM
open Go

variable {P : Program} {C : Ctx} {ops : Array Oper} {σ : St} {w w' : World} {h : Heap} {β β' : Blk}

/-! ### code -/
def W (P : Program) (C : Ctx) (c : Code) (Q : Exit → St → Prop) (σ : St) : Prop :=
  ∀ a w β, Sim C σ a w β → c.wp P (fun e a' w' => ∃ σ' β', Q e σ' ∧ Sim C σ' a' w' β') a w
def andThen (K : St → Prop) (Q : Exit → St → Prop) : Exit → St → Prop
  | .normal, σ => K σ
  | e, σ => Q e σ
def inBlock (id : Nat) (Q : Exit → St → Prop) : Exit → St → Prop
  | .exit i, σ => if i = id then Q .normal σ else Q (.exit i) σ
  | e, σ => Q e σ
theorem W.mono {c : Code} {Q Q' : Exit → St → Prop} (h : W P C c Q σ) (hq : ∀ e σ, Q e σ → Q' e σ) : W P C c Q' σ :=
  fun a w β S => Code.wp_mono (fun e a' w' ⟨σ', β', q, s⟩ => ⟨σ', β', hq _ _ q, s⟩) (h a w β S)
theorem W_skip {Q : Exit → St → Prop} (h : Q .normal σ) : W P C .skip Q σ := fun a w β S => wp_skip ⟨σ, β, h, S⟩
theorem W_ret {Q : Exit → St → Prop} (h : Q .ret σ) : W P C .ret Q σ := fun a w β S => wp_ret ⟨σ, β, h, S⟩
theorem W_exit {id : Nat} {Q : Exit → St → Prop} (h : Q (.exit id) σ) : W P C (.exit id) Q σ := fun a w β S => wp_exit ⟨σ, β, h, S⟩
theorem W_seq {x y : Code} {Q : Exit → St → Prop} (h : W P C x (andThen (W P C y Q) Q) σ) : W P C (.seq x y) Q σ := fun a w β S =>
  wp_seq (Code.wp_mono (fun e a' w' ⟨σ', β', q, s⟩ => by
    cases e with
    | normal => exact q a' w' β' s
    | _ => exact ⟨σ', β', q, s⟩) (h a w β S))
theorem W_block {id : Nat} {c : Code} {Q : Exit → St → Prop} (h : W P C c (inBlock id Q) σ) : W P C (.block id c) Q σ := fun a w β S =>
  wp_block (Code.wp_mono (fun e a' w' ⟨σ', β', q, s⟩ => by
    cases e with
    | exit i =>
      show if i = id then _ else _
      by_cases hi : i = id
      · rw [if_pos hi]; exact ⟨σ', β', by simpa [inBlock, hi] using q, s⟩
      · rw [if_neg hi]; exact ⟨σ', β', by simpa [inBlock, hi] using q, s⟩
    | _ => exact ⟨σ', β', q, s⟩) (h a w β S))
theorem W_cond {c : Operand} {x y : Code} {Q : Exit → St → Prop} {b : Bool} (hc : OpV σ.t c (.c (.bool b))) (h : W P C (if b then x else y) Q σ) : W P C (.cond c x y) Q σ := fun a w β S => by
  have := (hc.rep hc.facts S).c_inv
  exact wp_cond this (h a w β S)
theorem W_true {c : Operand} {x y : Code} {Q : Exit → St → Prop} (hc : OpV σ.t c (.c (.bool true))) (h : W P C x Q σ) : W P C (.cond c x y) Q σ := W_cond hc h
theorem W_false {c : Operand} {x y : Code} {Q : Exit → St → Prop} (hc : OpV σ.t c (.c (.bool false))) (h : W P C y Q σ) : W P C (.cond c x y) Q σ := W_cond hc h
theorem W_split {c : Operand} {x y : Code} {Q : Exit → St → Prop} {b : Bool} (hc : OpV σ.t c (.c (.bool b))) (ht : b = true → W P C x Q σ) (hf : b = false → W P C y Q σ) : W P C (.cond c x y) Q σ := by
  cases b
  · exact W_false hc (hf rfl)
  · exact W_true hc (ht rfl)
theorem W_loop {c : Code} {Q : Exit → St → Prop} (I : Nat → St → Prop) (n0 : Nat) (h0 : I n0 σ) (round : ∀ n σ, I n σ → W P C c (andThen (fun σ' => ∃ n', n' < n ∧ I n' σ') Q) σ) : W P C (.loop c) Q σ := fun a w β S =>
  wp_loop_ghost (fun n a w => ∃ σ β, I n σ ∧ Sim C σ a w β) n0 ⟨σ, β, h0, S⟩ (fun n a w ⟨σ, β, hi, s⟩ => Code.wp_mono (fun e a' w' ⟨σ', β', q, s'⟩ => by
    cases e with
    | normal => obtain ⟨n', hn, hi'⟩ := q; exact ⟨n', hn, σ', β', hi', s'⟩
    | _ => exact ⟨σ', β', q, s'⟩) (round n σ hi a w β s))
theorem W_region {id : Nat} {l : List Oper} {xs : List OpD} {σ' : St} {Q : Exit → St → Prop} (c : Chain P C l.toArray l σ xs σ') (hq : Q .normal σ') : W P C (.region id l.toArray false) Q σ := fun a w β S =>
  wp_region_list (by simpa using c.wpList (Q := fun e a' w' => ∃ σ' β', Q e σ' ∧ Sim C σ' a' w' β') (fun a w β s => ⟨σ', β, hq, s⟩) a w β S)
theorem W_draw {id : Nat} {l : List Oper} {xs : List OpD} {σ' : St} {Q : Exit → St → Prop} {A : List (List Nat)} (hm : P.follows .mixedOrders = true) (hb : backOk l.toArray = true) (hA : ancs l.toArray = A) (c : Chain P C l.toArray l σ xs σ') (hd : drawOk A xs = true) (hq : Q .normal σ') : W P C (.region id l.toArray true) Q σ := fun a w β S =>
  wp_drawn hm (by simpa using c) hb hA hd (fun a w β s => ⟨σ', β, hq, s⟩) S

/-- a region that ends in a panic -/
theorem Chain.wpList' {l l2 : List Oper} {σ' : St} {xs : List OpD} (c : Chain P C ops l σ xs σ') {Q : Exit → Act → World → Prop}
    (hQ : ∀ a w β, Sim C σ' a w β → Go.wpList P ops Q l2 a w) : ∀ a w β, Sim C σ a w β → Go.wpList P ops Q (l ++ l2) a w := by
  induction c with
  | nil σ => exact fun a w β S => hQ a w β S
  | cons h r ih =>
    intro a w β S
    refine wpList_step fun K hK => ?_
    exact h.sem _ a w β h.facts S K Q (fun a' w' β' S' => hK _ _ (ih hQ a' w' β' S'))
theorem W_panic {id : Nat} {l0 l : List Oper} {xs : List OpD} {σ' : St} {Q : Exit → St → Prop} {dst : Option Tmp} {x : Operand} {ty : TypeId} {pos : String} {af : Array Edge} {T : TypeId} {v : Value}
    (hl : l0 = l ++ [(⟨dst, .panic x, ty, pos, af, none⟩ : Oper)]) (c : Chain P C l0.toArray l σ xs σ') (hx : OpV σ'.t x (.c (.iface T v))) (hq : Q (.panic [{ v := .iface T v, recovered := false }]) σ') : W P C (.region id l0.toArray false) Q σ := fun a w β S =>
  wp_region_list (by
    have := c.wpList' (l2 := [(⟨dst, .panic x, ty, pos, af, none⟩ : Oper)]) (Q := fun e a' w' => ∃ σ' β', Q e σ' ∧ Sim C σ' a' w' β') (fun a w β s => ?_) a w β S
    · rw [← hl] at this; simpa using this
    · refine wpList_plain rfl fun K _ => ?_
      have he := (hx.rep hx.facts s).c_inv
      unfold Oper.wp
      simp only [execOp, he, Instr.panic, Sem.run_bind, run_goPanic, Result.andThen_halt]
      exact ⟨σ', β, hq, s⟩)

/-! ### values that hang on no box -/
def H0 : Heap := fun _ => ⟨0, false, 0, 0, []⟩
def B0 : Blk := ⟨fun _ => none, fun _ => 0⟩
/-- What is read stays readable. -/
structure Mv (w : World) (X : Nat → Prop) (h : Heap) (β : Blk) (w' : World) (X' : Nat → Prop) (h' : Heap) (β' : Blk) : Prop where
  size : w.heap.size ≤ w'.heap.size
  imm : ∀ b, b < w.heap.size → Okb X h β b → w'.heap[b]? = w.heap[b]? ∧ Okb X' h' β' b
def Pur (a : AV) : Prop := ∀ (w w' : World) (X X' : Nat → Prop) (h h' : Heap) (β β' : Blk) (v : Value), Mv w X h β w' X' h' β' → RepV w X h β v a → RepV w' X' h' β' v a
def PurL (cs : List AV) : Prop := ∀ a ∈ cs, Pur a
theorem Pur.c (v : Value) : Pur (.c v) := fun w w' X X' h h' β β' u _ r => by rw [r.c_inv]; exact .c v
theorem Pur.sl {es : List (List AV)} (hp : ∀ e ∈ es, PurL e) : Pur (.sl es) := fun w w' X X' h h' β β' u m r => by
  cases r with
  | sl A cap es sz b off cell h1 h2 h3 h4 h5 h6 h7 =>
    refine .sl A cap es sz b off cell h1 h2 h3 h4 (fun i j e a he ha => ?_) (fun hne => ⟨Nat.lt_of_lt_of_le (h6 hne).1 m.size, (m.imm b (h6 hne).1 (h6 hne).2).2⟩) (fun i j e a he ha => hp e (List.mem_of_getElem? he) a (List.mem_of_getElem? ha) w w' X X' h h' β β' _ m (h7 i j e a he ha))
    have hne : es ≠ [] := by rintro rfl; simp at he
    rw [← h5 i j e a he ha]
    exact World.cell?_of_block (m.imm b (h6 hne).1 (h6 hne).2).1
theorem Pur.agg {cs : List AV} (hp : PurL cs) : Pur (.agg cs) := fun w w' X X' h h' β β' u m r => by
  cases r with
  | agg vs cs h1 h2 => exact .agg vs cs h1 (fun i v a hv ha => hp a (List.mem_of_getElem? ha) w w' X X' h h' β β' _ m (h2 i v a hv ha))
theorem Pur.tup {cs : List AV} (hp : PurL cs) : Pur (.tup cs) := fun w w' X X' h h' β β' u m r => by
  cases r with
  | tup vs cs h1 h2 => exact .tup vs cs h1 (fun i v a hv ha => hp a (List.mem_of_getElem? ha) w w' X X' h h' β β' _ m (h2 i v a hv ha))
theorem Pur.ip {cs : List AV} (hp : PurL cs) : Pur (.ip cs) := fun w w' X X' h h' β β' u m r => by
  cases r with
  | ip b off cs cell h1 h2 h3 =>
    exact .ip b off cs cell ⟨Nat.lt_of_lt_of_le h1.1 m.size, (m.imm b h1.1 h1.2).2⟩ (fun j a ha => by rw [← h2 j a ha]; exact World.cell?_of_block (m.imm b h1.1 h1.2).1) (fun j a ha => hp a (List.mem_of_getElem? ha) w w' X X' h h' β β' _ m (h3 j a ha))
theorem Pur.ifc {T : TypeId} {a : AV} (hp : Pur a) : Pur (.ifc T a) := fun w w' X X' h h' β β' u m r => by
  cases r with
  | ifc T v a h1 => exact .ifc T v a (hp w w' X X' h h' β β' _ m h1)
theorem Pur.fn {f : FuncId} {cs : List AV} (hp : PurL cs) : Pur (.fn f cs) := fun w w' X X' h h' β β' u m r => by
  cases r with
  | fn f vs cs h1 h2 => exact .fn f vs cs h1 (fun i v a hv ha => hp a (List.mem_of_getElem? ha) w w' X X' h h' β β' _ m (h2 i v a hv ha))
theorem PurL.nil : PurL [] := fun a h => by cases h
theorem PurL.cons {a : AV} {l : List AV} (h : Pur a) (hl : PurL l) : PurL (a :: l) := fun b hb => by
  rcases List.mem_cons.1 hb with rfl | hb
  · exact h
  · exact hl b hb
theorem PurL.append {l m : List AV} (h : PurL l) (hl : PurL m) : PurL (l ++ m) := fun b hb => by
  rcases List.mem_append.1 hb with hb | hb
  · exact h b hb
  · exact hl b hb
/-- Hangs on no memory at all. -/
def Flat (a : AV) : Prop := ∀ (w w' : World) (X X' : Nat → Prop) (h h' : Heap) (β β' : Blk) (v : Value), RepV w X h β v a → RepV w' X' h' β' v a
theorem Flat.c (v : Value) : Flat (.c v) := fun w w' X X' h h' β β' u r => by rw [r.c_inv]; exact .c v
theorem Flat.tup {cs : List AV} (hp : ∀ a ∈ cs, Flat a) : Flat (.tup cs) := fun w w' X X' h h' β β' u r => by
  cases r with
  | tup vs cs h1 h2 => exact .tup vs cs h1 (fun i v a hv ha => hp a (List.mem_of_getElem? ha) w w' X X' h h' β β' _ (h2 i v a hv ha))
theorem Flat.agg {cs : List AV} (hp : ∀ a ∈ cs, Flat a) : Flat (.agg cs) := fun w w' X X' h h' β β' u r => by
  cases r with
  | agg vs cs h1 h2 => exact .agg vs cs h1 (fun i v a hv ha => hp a (List.mem_of_getElem? ha) w w' X X' h h' β β' _ (h2 i v a hv ha))
theorem Flat.pur {a : AV} (h : Flat a) : Pur a := fun w w' X X' hh h' β β' v _ r => h w w' X X' hh h' β β' v r

/-! ### boxes left behind, or lent: what is handed on is only read -/
inductive Frz (h : Heap) (ok : Site → Prop) : List AV → List AV → Prop
  | nil : Frz h ok [] []
  | pur {a : AV} {r r' : List AV} (hp : Pur a) (hr : Frz h ok r r') : Frz h ok (a :: r) (a :: r')
  | nils {r r' : List AV} (hr : Frz h ok r r') : Frz h ok (.c (.slice none 0 0) :: r) (.sl [] :: r')
  | agg {cs cs' r r' : List AV} (hc : Frz h ok cs cs') (hr : Frz h ok r r') : Frz h ok (.agg cs :: r) (.agg cs' :: r')
  | tup {cs cs' r r' : List AV} (hc : Frz h ok cs cs') (hr : Frz h ok r r') : Frz h ok (.tup cs :: r) (.tup cs' :: r')
  | own {s : Site} {n : Nat} {B : Box} {es es' : List (List AV)} {r r' : List AV} (hs : ok s) (hB : h s = B) (hl : B.live = true) (hn : n ≤ B.es.length) (he : B.es.take n = es) (hle : es.length = es'.length) (hp : ∀ (i : Nat) (e e' : List AV), es[i]? = some e → es'[i]? = some e' → Frz h ok e e') (hr : Frz h ok r r') : Frz h ok (.own s B.ver n :: r) (.sl es' :: r')
  | ptr {s : Site} {i off : Nat} {B : Box} {e e' r r' : List AV} (hs : ok s) (hB : h s = B) (hl : B.live = true) (he : B.es[i]? = some e) (hp : Frz h ok (e.drop off) e') (hr : Frz h ok r r') : Frz h ok (.ptr s B.ver i off :: r) (.ip e' :: r')
  | ifc {T : TypeId} {a a' : AV} {r r' : List AV} (hp : Frz h ok [a] [a']) (hr : Frz h ok r r') : Frz h ok (.ifc T a :: r) (.ifc T a' :: r')
  | fn {f : FuncId} {cs cs' r r' : List AV} (hc : Frz h ok cs cs') (hr : Frz h ok r r') : Frz h ok (.fn f cs :: r) (.fn f cs' :: r')
theorem Frz.length {ok : Site → Prop} {l l' : List AV} (f : Frz h ok l l') : l.length = l'.length := by
  induction f <;> simp_all
theorem Frz.purs {ok : Site → Prop} : ∀ {l : List AV}, PurL l → Frz h ok l l
  | [], _ => .nil
  | a :: l, hp => .pur (hp a List.mem_cons_self) (Frz.purs fun b hb => hp b (List.mem_cons_of_mem _ hb))
theorem Frz.ownP {ok : Site → Prop} {s : Site} {n : Nat} {B : Box} {es : List (List AV)} {r r' : List AV} (hs : ok s) (hB : h s = B) (hl : B.live = true) (hn : n ≤ B.es.length) (he : B.es.take n = es) (hp : ∀ e ∈ es, PurL e) (hr : Frz h ok r r') : Frz h ok (.own s B.ver n :: r) (.sl es :: r') :=
  .own hs hB hl hn he rfl (fun i e e' h1 h2 => by rw [h1] at h2; obtain rfl := Option.some.inj h2; exact Frz.purs (hp e (List.mem_of_getElem? h1))) hr
theorem Frz.congr {ok : Site → Prop} {h' : Heap} (hh : ∀ s, ok s → h' s = h s) {l l' : List AV} (f : Frz h ok l l') : Frz h' ok l l' := by
  induction f with
  | nil => exact .nil
  | pur hp hr ih => exact .pur hp ih
  | nils hr ih => exact .nils ih
  | agg hc hr i1 i2 => exact .agg i1 i2
  | tup hc hr i1 i2 => exact .tup i1 i2
  | own hs hB hl hn he hle hp hr i1 i2 => exact .own hs ((hh _ hs).trans hB) hl hn he hle i1 i2
  | ptr hs hB hl he hp hr i1 i2 => exact .ptr hs ((hh _ hs).trans hB) hl he i1 i2
  | ifc hp hr i1 i2 => exact .ifc i1 i2
  | fn hc hr i1 i2 => exact .fn i1 i2

theorem Frz.rep {ok : Site → Prop} {l l' : List AV} (f : Frz h ok l l') {X X' : Nat → Prop} (H : HeapRep w X h β) (hX : ∀ b, Okb X h β b → ¬ X' b) (hL : ∀ s b, (h s).live = true → ok s → β.b s = some b → ¬ X' b) :
    ∀ (i : Nat) (v : Value) (a a' : AV), l[i]? = some a → l'[i]? = some a' → RepV w X h β v a → RepV w X' H0 B0 v a' := by
  have hO : ∀ b, ¬ X' b → Okb X' H0 B0 b := fun b hb => ⟨hb, fun s hl => by simp [H0] at hl⟩
  have M : Mv w X h β w X' H0 B0 := ⟨Nat.le_refl _, fun b _ hb => ⟨rfl, hO b (hX b hb)⟩⟩
  induction f with
  | nil => intro i v a a' h1; simp at h1
  | pur hp hr ih =>
    intro i v a a' h1 h2 r
    cases i with
    | zero => simp at h1 h2; subst h1; subst h2; exact hp w w X X' h H0 β B0 v M r
    | succ i => exact ih i v a a' (by simpa using h1) (by simpa using h2) r
  | nils hr ih =>
    intro i v a a' h1 h2 r
    cases i with
    | zero =>
      simp at h1 h2; subst h1; subst h2
      rw [r.c_inv]
      exact .sl none 0 [] 0 0 0 (fun _ _ => undef) (Nat.le_refl _) (Nat.zero_le _) (fun h => absurd rfl h) (by simp) (by simp) (fun h => absurd rfl h) (by simp)
    | succ i => exact ih i v a a' (by simpa using h1) (by simpa using h2) r
  | @agg cs cs' r r' hc hr i1 i2 =>
    intro i v a a' h1 h2 rr
    cases i with
    | zero =>
      simp at h1 h2; subst h1; subst h2
      cases rr with
      | agg vs cs e1 e2 => exact .agg vs _ (e1.trans hc.length) (fun j u b hu hb => by
          have hlt : j < vs.size := (Array.getElem?_eq_some_iff.1 hu).1
          have hj := List.getElem?_eq_getElem (l := cs) (i := j) (by omega)
          exact i1 j u _ b hj hb (e2 j u _ hu hj))
    | succ i => exact i2 i v a a' (by simpa using h1) (by simpa using h2) rr
  | @tup cs cs' r r' hc hr i1 i2 =>
    intro i v a a' h1 h2 rr
    cases i with
    | zero =>
      simp at h1 h2; subst h1; subst h2
      cases rr with
      | tup vs cs e1 e2 => exact .tup vs _ (e1.trans hc.length) (fun j u b hu hb => by
          have hlt : j < vs.size := (Array.getElem?_eq_some_iff.1 hu).1
          have hj := List.getElem?_eq_getElem (l := cs) (i := j) (by omega)
          exact i1 j u _ b hj hb (e2 j u _ hu hj))
    | succ i => exact i2 i v a a' (by simpa using h1) (by simpa using h2) rr
  | @fn f cs cs' r r' hc hr i1 i2 =>
    intro i v a a' h1 h2 rr
    cases i with
    | zero =>
      simp at h1 h2; subst h1; subst h2
      cases rr with
      | fn f vs cs e1 e2 => exact .fn f vs _ (e1.trans hc.length) (fun j u b hu hb => by
          have hlt : j < vs.size := (Array.getElem?_eq_some_iff.1 hu).1
          have hj := List.getElem?_eq_getElem (l := cs) (i := j) (by omega)
          exact i1 j u _ b hj hb (e2 j u _ hu hj))
    | succ i => exact i2 i v a a' (by simpa using h1) (by simpa using h2) rr
  | @ifc T a0 a0' r r' hp hr i1 i2 =>
    intro i v a a' h1 h2 rr
    cases i with
    | zero =>
      simp at h1 h2; subst h1; subst h2
      cases rr with
      | ifc T v a e1 => exact .ifc T v _ (i1 0 v _ _ rfl rfl e1)
    | succ i => exact i2 i v a a' (by simpa using h1) (by simpa using h2) rr
  | @ptr s ii off B e e' r r' hs hB hl he hp hr i1 i2 =>
    intro i v a a' h1 h2 rr
    cases i with
    | zero =>
      simp at h1 h2; subst h1; subst h2
      subst hB
      cases rr with
      | ptr v s ver i off g0 g1 g2 =>
        obtain ⟨b, hb, rfl⟩ := g2 rfl hl
        rcases H.live s hl with ⟨hb2, _⟩ | ⟨b', cur, hb', hcur, hsz, hml, hle, hes, hrep⟩
        · rw [hb] at hb2; cases hb2
        · obtain rfl : b = b' := by rw [hb] at hb'; exact Option.some.inj hb'
          have hlen := hp.length
          rw [List.length_drop] at hlen
          refine .ip b _ e' (fun j => cur.getD (ii * (h s).sz + off + j) undef) ⟨(Array.getElem?_eq_some_iff.1 hcur).1, hO b (hL s b hl hs hb)⟩ (fun j a ha => ?_) (fun j a ha => ?_)
          · have hj : j < e'.length := (List.getElem?_eq_some_iff.1 ha).1
            obtain ⟨u, hu, _⟩ := hrep ii (off + j) e (e[off + j]'(by omega)) he (by simp)
            rw [← Nat.add_assoc] at hu
            simp [World.cell?, hcur, hu]
          · have hj : j < e'.length := (List.getElem?_eq_some_iff.1 ha).1
            obtain ⟨u, hu, hr⟩ := hrep ii (off + j) e (e[off + j]'(by omega)) he (by simp)
            rw [← Nat.add_assoc] at hu
            have := i1 j u _ a (by rw [List.getElem?_drop]; simp) ha hr
            simpa [hu] using this
    | succ i => exact i2 i v a a' (by simpa using h1) (by simpa using h2) rr
  | @own s n B es es' r r' hs hB hl hn he hle hp hr i1 i2 =>
    intro i v a a' h1 h2 rr
    cases i with
    | zero =>
      simp at h1 h2; subst h1; subst h2
      subst hB
      cases rr with
      | own v s ver n g0 g1 g2 =>
        rcases g2 rfl hl with ⟨b, hb, rfl, hcap⟩ | ⟨hb, rfl, rfl⟩
        · rcases H.live s hl with ⟨hb2, _⟩ | ⟨b', cur, hb', hcur, hsz, hml, hlb, hes, hrep⟩
          · rw [hb] at hb2; cases hb2
          · obtain rfl : b = b' := by rw [hb] at hb'; exact Option.some.inj hb'
            have hlen : es.length = n := by rw [← he, List.length_take]; omega
            have hn' : n = es'.length := by omega
            subst hn'
            have hget : ∀ (i : Nat) (e' : List AV), es'[i]? = some e' → ∃ e, (h s).es[i]? = some e ∧ es[i]? = some e ∧ e.length = e'.length := by
              intro i e' hi
              have hlt := (List.getElem?_eq_some_iff.1 hi).1
              have h3 : es[i]? = some (es[i]'(by omega)) := by simp
              refine ⟨es[i]'(by omega), ?_, h3, (hp i _ e' h3 hi).length⟩
              exact (take_get ((congrArg (fun l : List (List AV) => l[i]?) he).trans h3)).2
            refine .sl _ _ es' (h s).sz b 0 (fun i j => cur.getD (i * (h s).sz + j) undef) hcap (by omega) (fun _ => rfl) (fun e' hm => ?_) (fun i j e' a hi ha => ?_) (fun _ => ⟨(Array.getElem?_eq_some_iff.1 hcur).1, hO b (hL s b hl hs hb)⟩) (fun i j e' a hi ha => ?_)
            · obtain ⟨i, hi⟩ := List.mem_iff_getElem?.1 hm
              obtain ⟨e, h4, _, h5⟩ := hget i e' hi
              rw [← h5]; exact hes e (List.mem_of_getElem? h4)
            · obtain ⟨e, h4, h6, h5⟩ := hget i e' hi
              have hj : j < e'.length := (List.getElem?_eq_some_iff.1 ha).1
              obtain ⟨u, hu, _⟩ := hrep i j e (e[j]'(by omega)) h4 (by simp)
              simp [World.cell?, hcur, hu]
            · obtain ⟨e, h4, h6, h5⟩ := hget i e' hi
              have hj : j < e'.length := (List.getElem?_eq_some_iff.1 ha).1
              obtain ⟨u, hu, hr⟩ := hrep i j e (e[j]'(by omega)) h4 (by simp)
              have := i1 i e e' h6 hi j u _ a (by simp) ha hr
              simpa [hu] using this
        · have : es = [] := by rw [← he]; simp
          subst this
          have : es' = [] := List.eq_nil_of_length_eq_zero (by simpa using hle.symm)
          subst this
          exact .sl none 0 [] 0 0 0 (fun _ _ => undef) (Nat.le_refl _) (Nat.zero_le _) (fun h => absurd rfl h) (by simp) (by simp) (fun h => absurd rfl h) (by simp)
    | succ i => exact i2 i v a a' (by simpa using h1) (by simpa using h2) rr
end Go.Proofs.YtpbjbnghcbcdiaaDoor.AM
