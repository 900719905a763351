/- From a row's conditions to a contract: the library's variable; bytes that came in. After the kit's worked example 'toyas'. Conditions: none. -/
import Derived.Test.YtpbjbnghcbcdiaaDoorRows
import Derived.Test.YtpbjbnghcbcdiaaDoorAm16
import Derived.ChangeSame
import Derived.ChangeVars
import Derived.ChangeSlices
import Derived.JoinedOf
import Derived.RowKit
import Derived.RowKitTokens
import Derived.LaidLaws
import Derived.LaidHandle
import Derived.Stop.Joined
import Derived.Carry
set_option linter.unusedVariables false
namespace Go.Proofs.YtpbjbnghcbcdiaaDoor
open Go.ChangeShapes Go.WideShapes Go.RowKit

theorem Row.own : ownKnob Tryd.prog.godebug = none := by kernel_rfl
theorem Row.et : Tryd.prog.globalNamed "errors.errorType" = some 0 := by kernel_rfl
theorem Row.rt : (Tryd.prog.cutTypes.find? (·.1 == "internal/reflectlite.rtype")).map (·.2) = some 108 := by kernel_rfl
theorem Row.oneRow : ((List.range Tryd.prog.types.size).filter fun t => Tryd.prog.rowNamed t [101, 114, 114, 111, 114]) = [25] := by kernel_rfl
theorem Row.cells8 : Tryd.prog.cellsOf 5 = 1 := by kernel_rfl
theorem Row.laidOut : laidOutB Tryd.prog = true := by kernel_rfl

/-- What the condition gives a walk: the variable's cells. -/
theorem handle_cells {W : World} (h : laidMetH Tryd.prog [("errors.errorType", Rows.laid_errors_errorType)] W) : ∀ i, W.cell? ⟨0, i, none⟩ = (#[AM.gv] : Array Value)[i]? := by
  have h' : laidMet Tryd.prog [] W ∧ handlesMet Tryd.prog [("errors.errorType", Rows.laid_errors_errorType)] W := h
  obtain ⟨name, u, ty, e1, e2, e3, e4, e5⟩ := h'.2 _ (List.mem_singleton.2 rfl)
  have en : name = [101, 114, 114, 111, 114] := (Option.some.inj e1).symm
  subst en
  obtain rfl := Option.some.inj (Row.rt.symm.trans e2)
  have hm : ty ∈ (List.range Tryd.prog.types.size).filter fun t => Tryd.prog.rowNamed t [101, 114, 114, 111, 114] := List.mem_filter.2 ⟨List.mem_range.2 e3, e4⟩
  rw [Row.oneRow] at hm
  obtain rfl := List.mem_singleton.1 hm
  have hh : typeHandle Tryd.prog 25 = .pointer (some ⟨1, 25, none⟩) := by kernel_rfl
  rw [hh] at e5
  exact fun i => World.var?_cell Row.et e5 i

/-- A world that meets the condition: the settled one, the variable's cell laid. -/
noncomputable def laidWorld (os : Os) : World :=
  let w0 := World.holding Tryd.prog os ⟨#[], #[], []⟩
  { w0 with heap := w0.heap.modify 0 fun
      | .cells _ t frozen => .cells #[AM.gv] t frozen
      | o => o }
theorem laidWorld_met (os : Os) (args : Array Value) : laidMetH Tryd.prog [("errors.errorType", Rows.laid_errors_errorType)] ((laidWorld os).forCall (fun _ _ => 0) ⟨#[], args, []⟩).memory :=
  laidMetH_of_parts (laidMet_nil _ _) (by kernel_rfl)

/-- what is barred at a row's call: the variable's block -/
abbrev barred : Nat → Prop := fun k => k = 0
theorem gl_of {W : World} (hc : ∀ i, W.cell? ⟨0, i, none⟩ = (#[AM.gv] : Array Value)[i]?) : AM.Gl barred W := ⟨rfl, hc 0⟩

/-- bytes that came in -/
theorem read_bytes_gen {H : Type} {enc : TypeId × Value → H} {P : Program} {T E : TypeId} (ht : P.underlying T = some (.slice E)) (he : P.underlying E = some (.int .u8)) (hcs : P.cellsOf E = 1) {W : World} {r : Reach} {b0 : Nat} {v : Value} {d : DataW H} {p : List MemPlace} (hc : ∀ i, W.cell? ⟨0, i, none⟩ = (#[AM.gv] : Array Value)[i]?)
    (hval : Value.okWide P W r b0 T v) (h : DataW.Trod enc P W 0 (fun _ => true) true T v d p) : ∃ b : List UInt8, AM.RepV W barred AM.H0 AM.B0 v (.sl (b.map AM.eB)) := by
  obtain ⟨fuel, hf⟩ := h
  simp only [Value.okWide, ht] at hval
  cases v with
  | slice A len cap =>
    have hcells : (Value.slice A len cap).cells.toList = [.slice A len cap] := rfl
    rw [hcells] at hf
    rcases open_ints ht he hcs hf with ⟨h1, _⟩ | ⟨a, len', cap', zs, h1, hb, hl, hm, hz, _, hcell, hwf⟩
    · injection h1 with h1 _
      rw [h1]
      exact ⟨[], .sl none 0 [] 0 0 0 (fun _ _ => undef) (Nat.le_refl _) (Nat.zero_le _) (fun h => absurd rfl h) (by simp) (by simp) (fun h => absurd rfl h) (by simp)⟩
    · injection h1 with h1 _
      injection h1 with e1 e2 e3
      subst e1; subst e2; subst e3
      have hok := hval
      simp only [Cell.okWide, Cell.ok, ht, World.has] at hok
      have hspot : a.spot = none := hok.2.2.2.1
      obtain ⟨blk, off, spot⟩ := a
      subst hspot
      have hzl : zs.length = cap := by simpa using hz
      refine ⟨(zs.take len).map fun n => UInt8.ofNat n.toNat, ?_⟩
      have hlen : ((zs.take len).map fun n => UInt8.ofNat n.toNat).length = len := by simp; omega
      have := AM.RepV.sl (w := W) (X := barred) (h := AM.H0) (β := AM.B0) (some ⟨blk, off, none⟩) cap (((zs.take len).map fun n => UInt8.ofNat n.toNat).map AM.eB) 1 blk off (fun i _ => .int .u8 (zs.getD i 0))
        (by rw [List.length_map, hlen]; exact hl) (by rw [List.length_map, hlen]; omega) (fun _ => rfl) (fun e he => by obtain ⟨x, _, rfl⟩ := List.mem_map.1 he; rfl) (fun i j e a hi ha => ?_) (fun hne => ?_) (fun i j e a hi ha => ?_)
      · rwa [List.length_map, hlen] at this
      · have hi' := (List.getElem?_eq_some_iff.1 hi).1
        rw [List.length_map, hlen] at hi'
        have hj : j = 0 := by
          rw [List.getElem?_map] at hi
          obtain ⟨x, _, rfl⟩ := Option.map_eq_some_iff.1 hi
          have := (List.getElem?_eq_some_iff.1 ha).1
          simp at this; exact this
        subst hj
        have := hcell i (by omega)
        rw [AM.addr_add] at this
        rw [Nat.mul_one, Nat.add_zero]
        exact this
      · have h0 : 0 < len := by
          rcases Nat.eq_zero_or_pos len with h | h
          · subst h; simp at hne
          · exact h
        have := hcell 0 (by omega)
        rw [AM.addr_add, Nat.add_zero] at this
        refine ⟨?_, fun hb0 => ?_, fun s hl => by simp [AM.H0] at hl⟩
        · rcases Nat.lt_or_ge blk W.heap.size with h | h
          · exact h
          · simp [World.cell?, Array.getElem?_eq_none h] at this
        · have hb0 : blk = 0 := hb0
          subst hb0
          rw [hc off] at this
          cases off with
          | zero => simp [AM.gv] at this
          | succ off => simp at this
      · have hi' := (List.getElem?_eq_some_iff.1 hi).1
        rw [List.length_map, hlen] at hi'
        have hzi : i < zs.length := by omega
        rw [List.getElem?_map, List.getElem?_map, List.getElem?_take, if_pos hi', List.getElem?_eq_getElem hzi] at hi
        obtain rfl := Option.some.inj hi
        cases j with
        | zero =>
          obtain rfl := Option.some.inj (show some (AM.U8 (UInt8.ofNat (zs[i]).toNat)) = some a from ha)
          have hw := hwf (zs[i]) (List.getElem_mem hzi)
          have hr : 0 ≤ zs[i] ∧ zs[i] ≤ 255 := by simpa [Lit.wf, IntKind.min, IntKind.max, IntKind.signed, IntKind.bits] using hw
          have e : zs.getD i 0 = (((UInt8.ofNat (zs[i]).toNat).toNat : Nat) : Int) := by
            simp [hzi]; omega
          rw [e]
          exact .c _
        | succ j => simp at ha
  | _ => exact absurd hval (by simp [Cell.okWide, Cell.ok, ht])
set_option maxRecDepth 100000 in
theorem read_bytes {H : Type} {enc : TypeId × Value → H} {W : World} {r : Reach} {b0 : Nat} {v : Value} {d : DataW H} {p : List MemPlace} (hc : ∀ i, W.cell? ⟨0, i, none⟩ = (#[AM.gv] : Array Value)[i]?)
    (hval : Value.okWide Tryd.prog W r b0 22 v) (h : DataW.Trod enc Tryd.prog W 0 (fun _ => true) true 22 v d p) : ∃ b : List UInt8, AM.RepV W barred AM.H0 AM.B0 v (.sl (b.map AM.eB)) :=
  read_bytes_gen (P := Tryd.prog) (T := 22) (E := 5) Tryd.underlying22 Tryd.underlying5 Row.cells8 hc hval h
end Go.Proofs.YtpbjbnghcbcdiaaDoor
