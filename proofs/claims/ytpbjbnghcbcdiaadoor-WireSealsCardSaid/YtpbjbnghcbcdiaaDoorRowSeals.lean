/- tidingslaw03.WireSeals: any bytes have the sum, and the frame, that the document says, and are opened as it says, or refused: for every input the law returns true, and its argument reads as it did. Conditions: as the row states. -/
import Derived.Test.YtpbjbnghcbcdiaaDoorRead
import Derived.Test.YtpbjbnghcbcdiaaDoorWL3
import Derived.Test.YtpbjbnghcbcdiaaDoorTie
import Derived.Test.YtpbjbnghcbcdiaaDoorCards
import Derived.SevenTiedAt
set_option linter.unusedVariables false
namespace Go.Proofs.YtpbjbnghcbcdiaaDoor
open Go.ChangeShapes Go.WideShapes Go.RowKit

set_option maxRecDepth 100000 in
theorem wireSeals_lifted (os : Os) (started : os.Started) (H : Type) (enc : TypeId × Value → H) :
    ReturnsInHanded {} Tryd.checked os 3 .any (fun w args => (Rows.wireSealsSpec.pre enc Tryd.prog Tryd.f3 [] false w args ∧ laidMetH Tryd.prog Rows.wireSealsRow.laid w) ∧ sizedMet enc Tryd.prog Tryd.f3 (OpenSpec.ofChange Rows.wireSealsSpec) false w args)
      (Rows.wireSealsSpec.post enc Tryd.prog Tryd.f3 false true false false) := by
  refine returnsInHanded_of_change_and (C := Tryd.checked) (X := fun w _ => laidMetH Tryd.prog Rows.wireSealsRow.laid w) (fun _ _ _ hh h => h.of_heap hh) Row.own started (by kernel_rfl) Tryd.func3
    (ChangeSpec.witness_at (enc := enc) (C := Tryd.checked) (os := os) (X := fun w _ => laidMetH Tryd.prog Rows.wireSealsRow.laid w) false (laidWorld os) #[.slice none 0 0] 8 rfl (by kernel_rfl) (by kernel_rfl) (by kernel_rfl) (by kernel_rfl) (by kernel_rfl) (laidWorld_met os _)) ?_
  intro W base args ds gs before hval0 hW _ _ hL _
  have hval : ∀ (j : Nat) t v, Tryd.f3.params[j]? = some t → args[j]? = some v → Value.okWide Tryd.prog W .any base t v := hval0
  have hW' := hW
  obtain ⟨p, q, hA0, hV0, rfl, hfz, hnd⟩ := hW
  have hA : DataW.TrodAll enc Tryd.prog W 0 (fun _ => true) true Tryd.f3.params.toList args.toList ds p := hA0
  have hV : DataW.TrodVars enc Tryd.prog W (fun _ => true) [] gs q := hV0
  rw [Tryd.params3] at hA hval
  obtain ⟨v0, d0, rfl, rfl, h0⟩ := trodAll_one hA
  have hc := handle_cells hL
  obtain ⟨b, hb⟩ := read_bytes hc (hval 0 _ v0 rfl rfl) h0
  obtain ⟨rfl, rfl⟩ : gs = [] ∧ q = [] := by
    cases gs with
    | nil => exact ⟨rfl, hV⟩
    | cons g r => exact absurd hV (by intro h; cases h)
  have e1 : Rows.wireSealsSpec.fn H ([d0] ++ []) = { results := [.lit (.bool true)], args := [d0] } := by simp [Rows.wireSealsSpec]
  have G := gl_of hc
  refine ((AM.C_WireSeals b).2 barred W #[v0] G (fun k hk => by rw [hk]; exact G.lt) rfl (fun i v a hv ha => ?_)).mono fun e W' ⟨v, he, hr, hk⟩ => ?_
  · match i, hv, ha with
    | 0, hv, ha =>
      obtain rfl := Option.some.inj hv
      obtain rfl := Option.some.inj ha
      exact hb
  · subst he
    rw [hr.c_inv]
    have hbelow : Below W.heap.size W W' := ⟨hk.os, hk.tape, hk.output, hk.size, fun k hlt => hk.block k hlt (by omega)⟩
    have hlt : ∀ x ∈ p, x.block < W.heap.size := fun x hx => by have := hW'.lt x (by simpa using hx); exact this
    refine ⟨_, rfl, _, _, _, [], p, [], hW', ?_, ?_, ?_, hbelow.frame _, fun h => by cases h⟩
    · rw [e1]; exact trodAll_mk1 (shut_bool Tryd.underlying4 true)
    · rw [e1]; exact trodAll_mk1 (Below.trod Row.laidOut (by kernel_rfl) (of_decide_eq_true (by kernel_rfl)) h0 hbelow hlt)
    · rw [e1]; rfl

theorem wireSeals_holds : Rows.WireSealsSaid :=
  OpenClaim.holds_of_wide 3 Tryd.f3 rfl rfl rfl rfl rfl rfl rfl ⟨rfl, rfl, rfl, rfl, rfl⟩ rfl rfl rfl rfl rfl (by kernel_rfl) Tryd.func3 (by kernel_rfl)
    (of_decide_eq_true (by kernel_rfl)) (by unfold Func.isWrapper; rw [if_neg (of_decide_eq_false (by kernel_rfl))]; exact ⟨rfl, rfl⟩)
    (fun os started H enc _ => wireSeals_lifted os started H enc)

theorem wireSeals_card_holds : Rows.WireSealsCardSaid :=
  Claim7.holds_tied_plain_at .later [] [.handle] true (true, "e2816d4c77ebd2db646aa2a12a9aeb28aeb12d5f87d13012d826cc8640d71b90") true
    wireSeals_holds (fun _ h => by cases h) (by kernel_rfl) (fun _ h => by cases h) wireSeals_row_tie rfl ⟨rfl, rfl⟩ (by kernel_rfl) rfl
    (fun f fn hf hfn => by
      obtain rfl : f = 3 := Option.some.inj ((show Tryd.prog.funcNamed "tidings/tidingslaw03.WireSeals" = some 3 by kernel_rfl).symm.trans hf) |>.symm
      obtain rfl : fn = Tryd.f3 := (Option.some.inj (Tryd.func3.symm.trans hfn)).symm
      exact ⟨by kernel_rfl, fun j t ht => by
        rw [Tryd.params3] at ht
        have h3 : t = 22 := by
          rcases j with _ | j
          · simpa using ht.symm
          · simp at ht
        subst h3
        exact (show Tryd.prog.wantsStandIn 22 = false by kernel_rfl)⟩)
    (by kernel_rfl)
end Go.Proofs.YtpbjbnghcbcdiaaDoor
