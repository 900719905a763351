/- The abstract machine, part 10: calls and contracts. Conditions: none. -/
import Derived.Test.YtpbjbnghcbcdiaaDoorAm9
set_option linter.unusedVariables false
namespace Go.Proofs.YtpbjbnghcbcdiaaDoor.AM
open Go

variable {P : Program} {C : Ctx} {ops : Array Oper} {σ : St} {w w' : World} {h : Heap} {β β' : Blk}

def FnIs (P : Program) (f : FuncId) : Prop := ∃ fn, P.funcs[f]? = some fn ∧ (fn.name == "runtime.NumGoroutine") = false ∧ fn.body.isNone = false
theorem run_callFunc {f : FuncId} (h : FnIs P f) (args : Array Value) (w : World) : (callFunc f args).run P w = .ok (.enter f args) w := by
  obtain ⟨fn, h1, h2, h3⟩ := h
  unfold callFunc
  simp only [Sem.run_bind, run_program, Result.andThen_ok, h1, h2, h3, Bool.false_eq_true, if_false, Sem.run_pure]

/-- These arguments: that result; what was there is unturned. -/
def Fn (P : Program) (f : FuncId) (args : List AV) (r : AV) : Prop :=
  FnIs P f ∧ ∀ (X : Nat → Prop) (w : World) (vs : Array Value), Gl X w → (∀ k, X k → k < w.heap.size) → vs.size = args.length → (∀ (i : Nat) (v : Value) (a : AV), vs[i]? = some v → args[i]? = some a → RepV w X H0 B0 v a) →
    Calls P f vs w fun e w' => ∃ v, e = .returned v ∧ RepV w' X H0 B0 v r ∧ Keep (fun k => w.heap.size ≤ k) w w'
/-- the operands of a call -/
inductive Args (t : Nat → AV) : List Operand → List AV → List (Nat × AV) → Prop
  | nil : Args t [] [] []
  | cons {x : Operand} {a : AV} {l : List Operand} {as : List AV} {rs : List (Nat × AV)} (hx : OpV t x a) (r : Args t l as rs) : Args t (x :: l) (a :: as) (oprs x a ++ rs)
theorem Args.facts {t : Nat → AV} {l : List Operand} {as : List AV} {rs : List (Nat × AV)} (p : Args t l as rs) : ∀ q ∈ rs, t q.1 = q.2 := by
  induction p with
  | nil => intro q hq; cases hq
  | cons hx r ih => exact fapp hx.facts ih
theorem Args.len {t : Nat → AV} {l : List Operand} {as : List AV} {rs : List (Nat × AV)} (p : Args t l as rs) : l.length = as.length := by
  induction p with
  | nil => rfl
  | cons _ _ ih => simp [ih]
theorem Args.rep {t : Nat → AV} {l : List Operand} {as : List AV} {rs : List (Nat × AV)} (p : Args t l as rs) {τ : St} {a : Act} {w : World} {β : Blk} (S : Sim C τ a w β) : (∀ q ∈ rs, τ.t q.1 = q.2) →
    ∀ (i : Nat) (v : Value) (b : AV), (l.map a.eval)[i]? = some v → as[i]? = some b → RepV w C.X τ.h β v b := by
  induction p with
  | nil => intro _ i v b hv; simp at hv
  | cons hx r ih =>
    intro hf i v b hv hb
    cases i with
    | zero => simp at hv hb; subst hv; subst hb; exact hx.rep (fl hf) S
    | succ i => exact ih (fr hf) i v b (by simpa using hv) (by simpa using hb)

theorem Sim.xlt {τ : St} {a : Act} (S : Sim C τ a w β) (ok : Site → Prop) : ∀ k, (C.X k ∨ ∃ s, (τ.h s).live = true ∧ ¬ ok s ∧ β.b s = some k) → k < w.heap.size := by
  rintro k (hx | ⟨s, hl, _, hb⟩)
  · rcases Nat.lt_or_ge k w.heap.size with h | h
    · exact h
    · exact absurd (C.hfree k (Nat.le_trans S.keep.size h)) (C.hX k hx)
  · rcases S.hp.live s hl with ⟨h0, _⟩ | ⟨b', c, h0, h1, _⟩
    · rw [hb] at h0; cases h0
    · obtain rfl : k = b' := by rw [hb] at h0; exact Option.some.inj h0
      exact (Array.getElem?_eq_some_iff.1 h1).1

/-- what is lent, as the callee sees it -/
theorem Sim.lend {τ : St} {a : Act} (S : Sim C τ a w β) (ok : Site → Prop) {l l' : List AV} (f : Frz τ.h ok l l') {vs : List Value} (hl : vs.length = l.length) (hr : ∀ (i : Nat) (v : Value) (b : AV), vs[i]? = some v → l[i]? = some b → RepV w C.X τ.h β v b) :
    ∀ (i : Nat) (v : Value) (b : AV), vs.toArray[i]? = some v → l'[i]? = some b → RepV w (fun k => C.X k ∨ ∃ s, (τ.h s).live = true ∧ ¬ ok s ∧ β.b s = some k) H0 B0 v b := by
  intro i v b hv hb
  have hv' : vs[i]? = some v := by simpa using hv
  have hi : i < l.length := by rw [← hl]; exact (List.getElem?_eq_some_iff.1 hv').1
  refine f.rep S.hp (fun b ho => ?_) (fun s b hlv hs hbs => ?_) i v (l[i]) b (by simp) hb (hr i v _ hv' (by simp))
  · rintro (hx | ⟨s, hlv, _, hbs⟩)
    · exact ho.1 hx
    · exact ho.2 s hlv hbs
  · rintro (hx | ⟨s', hlv', hns, hbs'⟩)
    · exact S.hp.bar s b hlv hbs hx
    · have := S.hp.inj s s' b hlv hlv' hbs hbs'
      subst this
      exact hns hs

theorem run_call {f : FuncId} (hf : FnIs P f) {a : Act} {cf : Operand} {xs : List Operand} {caps : List Value} (hc : a.eval cf = .func (.func f) #[] caps.toArray) {dst : Option Tmp} {ts : Array TypeId} {ty : TypeId} {pos : String} {af : Array Edge} (w : World) :
    (execOp a.eval ⟨dst, .call { callee := .value cf, args := xs.toArray, argTypes := ts }, ty, pos, af, none⟩).run P w = .ok (.enter f (xs.map a.eval ++ caps).toArray) w := by
  simp only [execOp, resolve, hc, Deferred.ofValue, Sem.run_bind, Sem.run_pure, Result.andThen_ok, invoke, List.map_toArray]
  rw [show (#[] ++ (xs.map a.eval).toArray ++ caps.toArray : Array Value) = (xs.map a.eval ++ caps).toArray from by simp]
  exact run_callFunc hf _ w

section
variable {d : Nat} {ty : TypeId} {pos : String} {af : Array Edge} {cf : Operand} {ts : Array TypeId} {f : FuncId} {xs : List Operand} {as bs caps : List AV} {rs : List (Nat × AV)} {r : AV}

/-- the world behind a call that leaves what was there -/
theorem Sim.called {τ : St} {a : Act} (S : Sim C τ a w β) (hk : Keep (fun k => w.heap.size ≤ k) w w') {d : Option Nat} (hd : ∀ k, d = some k → k < C.n) {v : Value} {av : AV} (hv : RepV w' C.X τ.h β v av) : Sim C ⟨updO τ.t d av, τ.h⟩ (a.put d v) w' β := by
  have hsame : ∀ k, k < w.heap.size → w'.heap[k]? = w.heap[k]? := fun k hlt => hk.block k hlt (by omega)
  have hsize : ∀ s' b, (τ.h s').live = true → β.b s' = some b → b < w.heap.size := fun s' b hl' hb' => by
    rcases S.hp.live s' hl' with ⟨h0, _⟩ | ⟨b', c, h0, h1, _⟩
    · rw [hb'] at h0; cases h0
    · obtain rfl : b = b' := by rw [hb'] at h0; exact Option.some.inj h0
      exact (Array.getElem?_eq_some_iff.1 h1).1
  have E : Ext w C.X τ.h β w' C.X τ.h β := ⟨hk.size, fun b hb ho => ⟨hsame b hb, ho⟩, fun s => Nat.le_refl _, fun s _ hl => ⟨hl, rfl, rfl, rfl⟩⟩
  exact S.put E ⟨fun s hl => HB.keep E rfl rfl rfl (fun b hb => hsame b (hsize s b hl hb)) (S.hp.live s hl), S.hp.inj, S.hp.bar⟩ S.fr (hk.mono fun k hlt hge => absurd hge (by omega)) hd hv

/-- A call of a function, no box lent, or a result that hangs on no memory. -/
theorem s_call {Ls : List Site} (hd : d < C.n) (hc : OpV σ.t cf (.fn f caps)) (hA : Args σ.t xs as rs) (hZ : Frz σ.h (fun s => s ∈ Ls) (as ++ caps) bs) (hF : Fn P f bs r) (hr : Pur r) (hfl : Ls = [] ∨ Flat r) :
    Step P C ops ⟨some d, .call { callee := .value cf, args := xs.toArray, argTypes := ts }, ty, pos, af, none⟩ σ ⟨oprs cf (.fn f caps) ++ rs, Ls.map fun s => (s, σ.h s), some d, r, []⟩ := by
  refine ⟨fun τ a w β hf S K Q hK => ?_, ⟨fapp hc.facts hA.facts, fun p hp => by obtain ⟨s, _, rfl⟩ := List.mem_map.1 hp; rfl⟩⟩
  have hh : ∀ s, s ∈ Ls → τ.h s = σ.h s := fun s hs => hf.2 (s, σ.h s) (List.mem_map.2 ⟨s, hs, rfl⟩)
  have rc := hc.rep (fl hf.1) S
  have ra := hA.rep S (fr hf.1)
  rw [if_pos (by simp [Region.wanted])]
  generalize hu : a.eval cf = u at rc
  cases rc with
  | fn f cv caps e1 e2 =>
    unfold Oper.wp
    rw [run_call (caps := cv.toList) hF.1 (by simpa using hu)]
    have hlen : (xs.map a.eval ++ cv.toList).length = (as ++ caps).length := by simp [hA.len, e1]
    have hrep : ∀ (i : Nat) (v : Value) (b : AV), (xs.map a.eval ++ cv.toList)[i]? = some v → (as ++ caps)[i]? = some b → RepV w C.X τ.h β v b := by
      intro i v b hv hb
      have hl0 : (xs.map a.eval).length = as.length := by simp [hA.len]
      rw [List.getElem?_append, hl0] at hv
      rw [List.getElem?_append] at hb
      split at hv
      · rename_i hi; rw [if_pos hi] at hb; exact ra i v b hv hb
      · rename_i hi; rw [if_neg hi] at hb; exact e2 _ v b (by simpa using hv) hb
    have hZ' : Frz τ.h (fun s => s ∈ Ls) (as ++ caps) bs := hZ.congr hh
    have hl := S.lend (fun s => s ∈ Ls) hZ' hlen hrep
    have hcall := hF.2 _ w _ (S.gl fun k h => .inl h) (S.xlt (fun s => s ∈ Ls)) (by rw [List.size_toArray, hlen, hZ.length]) hl
    refine Calls.mono hcall ?_
    rintro e w' ⟨v, rfl, hv, hk⟩
    have hv' : RepV w' C.X τ.h β v r := by
      rcases hfl with rfl | hfl
      · refine hr w' w' _ _ _ _ _ _ v ⟨Nat.le_refl _, fun b _ ho => ⟨rfl, fun hx => ho.1 (.inl hx), fun s hlv hb => ho.1 (.inr ⟨s, hlv, by simp, hb⟩)⟩⟩ hv
      · exact hfl _ _ _ _ _ _ _ _ _ hv
    exact hK _ _ β (S.called hk (someLt hd) hv')
end
end Go.Proofs.YtpbjbnghcbcdiaaDoor.AM
