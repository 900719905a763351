/- The abstract machine, part 16: a literal's bytes that are turned to bytes. Conditions: none. -/
import Derived.Test.YtpbjbnghcbcdiaaDoorAm15
set_option linter.unusedVariables false
namespace Go.Proofs.YtpbjbnghcbcdiaaDoor.AM
open Go

variable {P : Program} {C : Ctx} {ops : Array Oper} {σ : St} {w w' : World} {h : Heap} {β β' : Blk}

theorem run_cnvLit {T E : TypeId} (ht : P.underlying T = some (.slice E)) (hE : P.underlying E = some (.int .u8)) {b : Nat} {cur : Array Value} {T' : TypeId} (hb : w.heap[b]? = some (.cells cur T' (0, 0))) (n cap : Nat) :
    ∃ w', (convert T T (.slice (some ⟨b, 0, none⟩) n cap)).run P w = .ok (.slice (some ⟨b, 0, none⟩) n cap) w' ∧ Keep (fun k => k = b) w w' ∧ ∃ fr, w'.heap[b]? = some (.cells cur T' fr) := by
  have hsh : w.shape? b = some (T', cur.size) := by unfold World.shape?; rw [hb]
  refine ⟨w.freeze ⟨b, cur.size, none⟩ 1, by simp [convert, run_underlying ht, run_underlying hE, markStringish, hsh], ⟨rfl, rfl, rfl, by simp [World.freeze], fun k hk hne => ?_⟩, (cur.size, cur.size + 1), ?_⟩
  · unfold World.freeze
    rw [if_neg (by decide)]
    simp [Array.getElem?_modify, show ¬ b = k from fun e => hne e.symm]
  · unfold World.freeze
    rw [if_neg (by decide)]
    simp [Array.getElem?_modify, hb]

section
variable {d : Nat} {ty : TypeId} {pos : String} {af : Array Edge} {x : Operand} {α : Type} {f : α → List AV} {T E : TypeId} {sz : Nat}
theorem s_cnvLit (s : Site) (v : Nat) (xs : List α) (hB : σ.h s = ⟨v, true, E, sz, xs.map f⟩) (hne : xs ≠ []) (hd : d < C.n) (hx : OpV σ.t x (.own s v xs.length)) (ht : P.underlying T = some (.slice E)) (hE : P.underlying E = some (.int .u8)) :
    Step P C ops ⟨some d, .convert T T x, ty, pos, af, none⟩ σ ⟨oprs x (.own s v xs.length), [(s, ⟨v, true, E, sz, xs.map f⟩)], some d, .sl (xs.map f), [(s, ⟨v + 1, false, E, sz, []⟩)]⟩ := by
  refine ⟨fun τ a w β hf S K Q hK => ?_, ⟨hx.facts, fun p hp => by rw [List.mem_singleton.1 hp]; exact hB⟩⟩
  have hB' : τ.h s = ⟨v, true, E, sz, xs.map f⟩ := hf.2 (s, ⟨v, true, E, sz, xs.map f⟩) List.mem_cons_self
  have r := hx.rep hf.1 S
  have hl : (τ.h s).live = true := by rw [hB']
  rw [if_pos (by simp [Region.wanted])]
  generalize hu : a.eval x = u at r
  cases r with
  | own u s ver n h0 h1 h2 =>
    rcases h2 (by rw [hB']) hl with ⟨b, hb, rfl, hcap⟩ | ⟨_, _, h⟩
    · rcases S.hp.live s hl with ⟨hb2, _⟩ | ⟨b', cur, hb', hcur, hsz, hml, hle, hes, hrep⟩
      · rw [hb] at hb2; cases hb2
      · obtain rfl : b = b' := by rw [hb] at hb'; exact Option.some.inj hb'
        rw [hB'] at hcur hsz hle hes hrep
        obtain ⟨w', hrun, hk, fr, hb3⟩ := run_cnvLit (P := P) (w := w) ht hE hcur xs.length (β.cap s)
        have hlt : b < w.heap.size := (Array.getElem?_eq_some_iff.1 hcur).1
        have hsame : ∀ k, k < w.heap.size → k ≠ b → w'.heap[k]? = w.heap[k]? := fun k hk' hne' => hk.block k hk' hne'
        have hh : ∀ s', s' ≠ s → hupds τ.h [(s, ⟨v + 1, false, E, sz, []⟩)] s' = τ.h s' := fun s' hs => hupd_ne _ _ hs
        have hs0 : hupds τ.h [(s, ⟨v + 1, false, E, sz, []⟩)] s = ⟨v + 1, false, E, sz, []⟩ := hupd_same _ _ _
        have Ex : Ext w C.X τ.h β w' C.X (hupds τ.h [(s, ⟨v + 1, false, E, sz, []⟩)]) β := by
          refine ⟨hk.size, fun k hk' ho => ⟨hsame k hk' (fun e => ho.2 s hl (by rw [e]; exact hb)), ho.1, fun s' hl' => ?_⟩, fun s' => ?_, fun s' hv hl' => ?_⟩
          · by_cases hs : s' = s
            · subst hs; rw [hs0] at hl'; cases hl'
            · rw [hh s' hs] at hl'; exact ho.2 s' hl'
          · by_cases hs : s' = s
            · subst hs; rw [hs0, hB']; exact Nat.le_succ _
            · rw [hh s' hs]; exact Nat.le_refl _
          · by_cases hs : s' = s
            · subst hs; rw [hs0] at hl'; cases hl'
            · rw [hh s' hs] at hl' ⊢; exact ⟨hl', rfl, rfl, rfl⟩
        have hlive : ∀ s', (hupds τ.h [(s, ⟨v + 1, false, E, sz, []⟩)] s').live = true → s' ≠ s ∧ (τ.h s').live = true := fun s' hl' => by
          by_cases hs : s' = s
          · subst hs; rw [hs0] at hl'; cases hl'
          · rw [hh s' hs] at hl'; exact ⟨hs, hl'⟩
        unfold Oper.wp
        have hrun' : (execOp a.eval ⟨some d, .convert T T x, ty, pos, af, none⟩).run P w = .ok (.value (.slice (some ⟨b, 0, none⟩) xs.length (β.cap s))) w' := by
          simp only [execOp, hu, Sem.run_bind, hrun, Result.andThen_ok, Sem.run_pure]
        rw [hrun']
        refine hK _ _ β (S.put Ex ⟨fun s' hl' => ?_, fun s1 s2 k h3 h4 => ?_, fun s' k h3 => ?_⟩ (fun s' k h3 => ?_) (hk.mono fun k _ e => by rw [e]; exact S.fr s b hl hb) (someLt hd) ?_)
        · obtain ⟨hs, hl2⟩ := hlive s' hl'
          exact HB.keep Ex (hh s' hs) rfl rfl (fun k hk' => hsame k (S.hp.lt hl2 hk') (fun e => hs (S.hp.inj s' s b hl2 hl (by rw [← e]; exact hk') hb))) (S.hp.live s' hl2)
        · exact S.hp.inj s1 s2 k (hlive s1 h3).2 (hlive s2 h4).2
        · exact S.hp.bar s' k (hlive s' h3).2
        · exact S.fr s' k (hlive s' h3).2
        · have := RepV.sl (w := w') (X := C.X) (h := hupds τ.h [(s, ⟨v + 1, false, E, sz, []⟩)]) (β := β) (some ⟨b, 0, none⟩) (β.cap s) (xs.map f) sz b 0 (fun i j => cur.getD (i * sz + j) undef) (by simpa using hcap) (by simp at hle ⊢; omega) (fun _ => rfl) hes
            (fun i j e a hi ha => by
              obtain ⟨u, hu', _⟩ := hrep i j e a hi ha
              simp [World.cell?, hb3, hu'])
            (fun _ => ⟨Nat.lt_of_lt_of_le hlt hk.size, S.hp.bar s b hl hb, fun s' hl' e => (hlive s' hl').1 (S.hp.inj s' s b (hlive s' hl').2 hl e hb)⟩)
            (fun i j e a hi ha => by
              obtain ⟨u, hu', hr⟩ := hrep i j e a hi ha
              have := hr.ext Ex
              simpa [hu'] using this)
          rwa [List.length_map] at this
    · exact absurd (List.eq_nil_of_length_eq_zero h) hne
end
end Go.Proofs.YtpbjbnghcbcdiaaDoor.AM
