/- errors.As at '*api.Code', as a contract of the abstract machine. Conditions: none. -/
import Derived.Test.YtpbjbnghcbcdiaaDoorAs
import Derived.Test.YtpbjbnghcbcdiaaDoorAm15
set_option linter.unusedVariables false
namespace Go.Proofs.YtpbjbnghcbcdiaaDoor.AM
open Go

abbrev eC (n : Int) : AV := .c (.iface 52 (.int .i64 n))
theorem C_asHit (n m : Int) (v : Nat) : FnS Tryd.prog 29 [⟨v, true, 52, 1, [[.c (.int .i64 m)]]⟩] [eC n, .ifc 56 (.ptr (.up 0) v 0 0)] [⟨v, true, 52, 1, [[.c (.int .i64 n)]]⟩] [] (.c (.bool true)) := by
  refine ⟨⟨Tryd.f29, Tryd.func29, by kernel_rfl, by kernel_rfl⟩, fun X w vs β hG hX H hvs hrep => ?_⟩
  have hin : bx [⟨v, true, 52, 1, [[.c (.int .i64 m)]]⟩] (.up 0) = ⟨v, true, 52, 1, [[.c (.int .i64 m)]]⟩ := rfl
  have hout : bo [⟨v, true, 52, 1, [[.c (.int .i64 n)]]⟩] [] (.up 0) = ⟨v, true, 52, 1, [[.c (.int .i64 n)]]⟩ := rfl
  have hdead : ∀ s, s ≠ .up 0 → (bo [⟨v, true, 52, 1, [[.c (.int .i64 n)]]⟩] [] s).live = false := fun s hs => by
    cases s with
    | loc k => rfl
    | up k => cases k with
      | zero => exact absurd rfl hs
      | succ k => rfl
  have hl0 : (bx [⟨v, true, 52, 1, [[.c (.int .i64 m)]]⟩] (.up 0)).live = true := rfl
  obtain ⟨v0, v1, rfl⟩ : ∃ v0 v1, vs = #[v0, v1] := by
    rcases vs with ⟨l⟩
    match l, hvs with
    | [a, b], _ => exact ⟨a, b, rfl⟩
  have r0 := hrep 0 v0 _ rfl rfl
  have r1 := hrep 1 v1 _ rfl rfl
  rw [r0.c_inv]
  cases r1 with
  | ifc T u a r1 =>
    cases r1 with
    | ptr u s ver i off g0 g1 g2 =>
      obtain ⟨b, hb, rfl⟩ := g2 rfl hl0
      rcases H.live (.up 0) hl0 with ⟨h0, _⟩ | ⟨b', cur, h0, hcur, hsz, hcap, hle, hes, hrp⟩
      · rw [hb] at h0; cases h0
      · obtain rfl : b = b' := by rw [hb] at h0; exact Option.some.inj h0
        obtain ⟨u, hu, hru⟩ := hrp 0 0 _ _ rfl rfl
        have hblt := H.lt hl0 hb
        have hu0 : cur[0]? = some u := hu
        have hub := hru.c_inv
        have hcur' : w.heap[b]? = some (.cells cur 52 (0, 0)) := hcur
        have hcell : w.cell? ⟨b, 0, none⟩ = some u := by simp [World.cell?, hcur', hu0]
        refine Calls.mono (as_hit n ⟨b, 0, none⟩ u w hG.cell hcell (by simp [World.frozen?, hcur'])) ?_
        rintro e w' ⟨rfl, rfl⟩
        have hothers : ∀ o1 o2 o3 o4 k, k < w.heap.size → k ≠ b → (((((w.alloc o1).alloc o2).alloc o3).alloc o4).setCell ⟨b, 0, none⟩ (.int .i64 n)).heap[k]? = w.heap[k]? := fun o1 o2 o3 o4 k hk hne => by
          rw [heap_setCell_other _ _ _ _ hne, RowKit.Below.heap_alloc _ _ _ (by simp; omega), RowKit.Below.heap_alloc _ _ _ (by simp; omega), RowKit.Below.heap_alloc _ _ _ (by simp; omega), RowKit.Below.heap_alloc _ _ _ hk]
        have hnew : ∀ o1 o2 o3 o4, (((((w.alloc o1).alloc o2).alloc o3).alloc o4).setCell ⟨b, 0, none⟩ (.int .i64 n)).heap[b]? = some (.cells (cur.setIfInBounds 0 (.int .i64 n)) 52 (0, 0)) := fun o1 o2 o3 o4 => by
          have h4 : ((((w.alloc o1).alloc o2).alloc o3).alloc o4).heap[b]? = some (.cells cur 52 (0, 0)) := by
            rw [RowKit.Below.heap_alloc _ _ _ (by simp; omega), RowKit.Below.heap_alloc _ _ _ (by simp; omega), RowKit.Below.heap_alloc _ _ _ (by simp; omega), RowKit.Below.heap_alloc _ _ _ hblt]
            exact hcur'
          exact heap_setCell_same _ b 0 cur _ _ h4
        have hpos : 0 < cur.size := by
          rcases Nat.eq_zero_or_pos cur.size with h | h
          · rw [Array.getElem?_eq_none (by omega)] at hu0; cases hu0
          · exact h
        refine ⟨.bool true, β, rfl, ⟨fun s hl => ?_, fun s s' b2 hl hl' e1 e2 => ?_, fun s b2 hl hb2 => ?_⟩, .c _, ⟨rfl, rfl, rfl, by simp [World.setCell]; omega, fun k hk hnf => hothers _ _ _ _ k hk (fun e => hnf (.inr ⟨.up 0, hl0, by rw [e]; exact hb⟩))⟩, ⟨fun s => ?_, fun s _ hl => ?_⟩, fun s b2 hl hb2 => ?_⟩
        · by_cases hs : s = .up 0
          · subst hs
            refine .inr ⟨b, _, hb, hnew _ _ _ _, by rw [Array.size_setIfInBounds]; exact hsz, hcap, hle, fun e he => ?_, fun i j e a hi ha => ?_⟩
            · have he' : e ∈ [[(.c (.int .i64 n) : AV)]] := he
              rw [List.mem_singleton.1 he']; rfl
            · have hi' : ([[(.c (.int .i64 n) : AV)]])[i]? = some e := hi
              cases i with
              | zero =>
                obtain rfl := Option.some.inj (show some [(.c (.int .i64 n) : AV)] = some e from hi')
                cases j with
                | zero =>
                  obtain rfl := Option.some.inj (show some (.c (.int .i64 n) : AV) = some a from ha)
                  exact ⟨.int .i64 n, by simp [hpos], .c _⟩
                | succ j => simp at ha
              | succ i => simp at hi'
          · rw [hdead s hs] at hl; cases hl
        · have hs : s = .up 0 := Classical.byContradiction fun h => by rw [hdead s h] at hl; cases hl
          have hs' : s' = .up 0 := Classical.byContradiction fun h => by rw [hdead s' h] at hl'; cases hl'
          rw [hs, hs']
        · have hs : s = .up 0 := Classical.byContradiction fun h => by rw [hdead s h] at hl; cases hl
          subst hs
          exact H.bar _ b2 hl0 hb2
        · cases s with
          | loc k => exact Nat.le_refl _
          | up k => cases k with
            | zero => exact Nat.le_refl _
            | succ k => exact Nat.le_refl _
        · have hs : s = .up 0 := Classical.byContradiction fun h => by rw [hdead s h] at hl; cases hl
          subst hs
          exact ⟨rfl, rfl, rfl, rfl⟩
        · have hs : s = .up 0 := Classical.byContradiction fun h => by rw [hdead s h] at hl; cases hl
          subst hs
          exact .inr ⟨.up 0, hl0, hb2⟩
/-- an error: none, or a code -/
inductive Er where
  | no
  | code (n : Nat)
  deriving DecidableEq
def Er.num : Er → Nat
  | .no => 0
  | .code n => n
def Er.isNo : Er → Bool
  | .no => true
  | .code _ => false
def erA : Er → AV
  | .no => .c .nilIface
  | .code n => eC n
theorem isNil_er (e : Er) : isNil (erA e) = some e.isNo := by cases e <;> rfl
theorem flat_er (e : Er) : Flat (erA e) := by cases e <;> exact .c _
theorem s_callAs {P : Program} {C : Ctx} {ops : Array Oper} {σ : St} {d : Nat} {ty : TypeId} {pos : String} {af : Array Edge} {ts : Array TypeId} {xs : List Operand} {rs : List (Nat × AV)} (hP : P = Tryd.prog) (s : Site) (v : Nat) (n m : Int) (hB : σ.h s = ⟨v, true, 52, 1, [[.c (.int .i64 m)]]⟩)
    (hd : d < C.n) (hA : Args σ.t xs [eC n, .ifc 56 (.ptr s v 0 0)] rs) :
    Step P C ops ⟨some d, .call { callee := .value (.func 29), args := xs.toArray, argTypes := ts }, ty, pos, af, none⟩ σ ⟨oprs (.func 29) (.fn 29 []) ++ rs, [(s, σ.h s)], some d, .c (.bool true), [(s, ⟨v, true, 52, 1, [[.c (.int .i64 n)]]⟩)]⟩ := by
  subst hP
  have hw : hupds σ.h [(s, ⟨v, true, 52, 1, [[.c (.int .i64 n)]]⟩)] s = ⟨v, true, 52, 1, [[.c (.int .i64 n)]]⟩ := hupd_same _ _ _
  have hpur : ∀ k : Int, ∀ e ∈ [[(.c (.int .i64 k) : AV)]], PurL e := fun k e he => by rw [List.mem_singleton.1 he]; exact .cons (.c _) .nil
  refine s_callS [(s, .up 0)] [] [(.up 0, s)] [(s, ⟨v, true, 52, 1, [[.c (.int .i64 n)]]⟩)] (C_asHit n m v) hd (.func _) hA ?_ (by simp) ?_ ?_ (by simp) (by simp) ?_ ?_ (by simp) ?_
  · exact .pur (.c _) (.ifc (.mvP (by simp [gOf]) (by rw [hB]) rfl .nil) .nil)
  · intro p hp1
    rw [List.mem_singleton.1 hp1]
    refine ⟨by simp [gOf], by rw [hB], by rw [hB]; rfl, ?_⟩
    rw [hB]
    exact BTr.same (A := ⟨v, true, 52, 1, [[.c (.int .i64 m)]]⟩) (hpur m)
  · intro s' hl
    cases s' with
    | loc n => simp [bx, dead] at hl
    | up k =>
      cases k with
      | zero => simp
      | succ k => simp [bx, dead] at hl
  · intro p hp1
    rw [List.mem_singleton.1 hp1]
    refine ⟨by simp [gOf], rfl, ?_⟩
    show BTr _ _ _ _ _ (hupds σ.h [(s, ⟨v, true, 52, 1, [[.c (.int .i64 n)]]⟩)] s)
    rw [hw]
    exact BTr.same (A := ⟨v, true, 52, 1, [[.c (.int .i64 n)]]⟩) (hpur n)
  · exact .pur (.c _) .nil
  · intro s' hs'
    obtain rfl : s' = s := by simpa using hs'
    rw [hw, hB]
    exact ⟨Nat.le_refl _, fun _ => by simp, fun _ _ => ⟨.up 0, by simp, by simp, rfl⟩⟩
end Go.Proofs.YtpbjbnghcbcdiaaDoor.AM
