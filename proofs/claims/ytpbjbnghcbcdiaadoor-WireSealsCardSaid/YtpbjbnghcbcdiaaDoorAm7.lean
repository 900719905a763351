/- The abstract machine, part 7: a store into a box, append to a row of one's own. Conditions: none. -/
import Derived.Test.YtpbjbnghcbcdiaaDoorAm6
set_option linter.unusedVariables false
namespace Go.Proofs.YtpbjbnghcbcdiaaDoor.AM
open Go

variable {P : Program} {C : Ctx} {ops : Array Oper} {σ : St} {w w' : World} {h : Heap} {β β' : Blk}

theorem seg_lt {i i' j sz : Nat} (hi : i' < i) (hj : j < sz) : i' * sz + j < i * sz := by
  have : (i' + 1) * sz ≤ i * sz := Nat.mul_le_mul_right _ hi
  rw [Nat.add_mul, Nat.one_mul] at this
  omega
theorem splice_get (l vs : List Value) (o k q : Nat) (hv : vs.length = k) (ho : o + k ≤ l.length) : (l.take o ++ vs ++ l.drop (o + k))[q]? = if q < o then l[q]? else if q < o + k then vs[q - o]? else l[q]? := by
  rw [List.append_assoc, List.getElem?_append]
  have e1 : (l.take o).length = o := by rw [List.length_take]; omega
  rw [e1]
  by_cases h1 : q < o
  · rw [if_pos h1, if_pos h1, List.getElem?_take, if_pos h1]
  · rw [if_neg h1, if_neg h1, List.getElem?_append, hv]
    by_cases h2 : q < o + k
    · rw [if_pos (by omega), if_pos h2]
    · rw [if_neg (by omega), if_neg h2, List.getElem?_drop]
      congr 1
      omega
theorem spliceA_get (l vs : List AV) (o k q : Nat) (hv : vs.length = k) (ho : o + k ≤ l.length) : (l.take o ++ vs ++ l.drop (o + k))[q]? = if q < o then l[q]? else if q < o + k then vs[q - o]? else l[q]? := by
  rw [List.append_assoc, List.getElem?_append]
  have e1 : (l.take o).length = o := by rw [List.length_take]; omega
  rw [e1]
  by_cases h1 : q < o
  · rw [if_pos h1, if_pos h1, List.getElem?_take, if_pos h1]
  · rw [if_neg h1, if_neg h1, List.getElem?_append, hv]
    by_cases h2 : q < o + k
    · rw [if_pos (by omega), if_pos h2]
    · rw [if_neg (by omega), if_neg h2, List.getElem?_drop]
      congr 1
      omega

/-- The box's content is altered in place. -/
theorem Sim.inPlace {τ : St} {a : Act} (S : Sim C τ a w β) (s : Site) (hl : (τ.h s).live = true) {b : Nat} (hb : β.b s = some b) {cur cur' : Array Value} (hcur : w.heap[b]? = some (.cells cur (τ.h s).T (0, 0))) (es' : List (List AV))
    (hw : Keep (fun k => k = b) w w') (hcur' : w'.heap[b]? = some (.cells cur' (τ.h s).T (0, 0))) (hsz : cur'.size = cur.size) (hlen : es'.length = (τ.h s).es.length) (hes : ∀ e ∈ es', e.length = (τ.h s).sz)
    (hr : ∀ (i j : Nat) (e : List AV) (a : AV), es'[i]? = some e → e[j]? = some a → ∃ u, cur'[i * (τ.h s).sz + j]? = some u ∧ RepV w C.X τ.h β u a) :
    Sim C ⟨τ.t, hupd τ.h s { τ.h s with es := es' }⟩ a w' β := by
  have hblt : b < w.heap.size := (Array.getElem?_eq_some_iff.1 hcur).1
  have hh : ∀ s', (hupd τ.h s { τ.h s with es := es' } s').live = (τ.h s').live ∧ (hupd τ.h s { τ.h s with es := es' } s').ver = (τ.h s').ver ∧ (hupd τ.h s { τ.h s with es := es' } s').sz = (τ.h s').sz ∧ (hupd τ.h s { τ.h s with es := es' } s').T = (τ.h s').T := by
    intro s'
    by_cases hs : s' = s
    · subst hs; rw [hupd_same]; exact ⟨rfl, rfl, rfl, rfl⟩
    · rw [hupd_ne _ _ hs]; exact ⟨rfl, rfl, rfl, rfl⟩
  have hlive : ∀ s', (hupd τ.h s { τ.h s with es := es' } s').live = (τ.h s').live := fun s' => (hh s').1
  have E : Ext w C.X τ.h β w' C.X (hupd τ.h s { τ.h s with es := es' }) β := by
    refine ⟨hw.size, fun k hk ho => ⟨hw.block k hk (fun e => ho.2 s hl (by rw [e]; exact hb)), ho.1, fun s' hl' => ho.2 s' (by rw [hlive] at hl'; exact hl')⟩, fun s' => by rw [(hh s').2.1]; exact Nat.le_refl _, fun s' hv hl' => ⟨by rw [hlive] at hl'; exact hl', (hh s').2.2.1, rfl, rfl⟩⟩
  have := S.put E ⟨fun s' hl' => ?_, fun s1 s2 k h1 h2 => ?_, fun s' k hl' => ?_⟩ (fun s' k hl' => ?_) (hw.mono fun k _ e => by rw [e]; exact S.fr s b hl hb) (d := none) (fun k e => by cases e) (v := undef) (av := .junk) (.junk _)
  · exact this
  · rw [hlive] at hl'
    by_cases hs : s' = s
    · subst hs
      rcases S.hp.live s' hl with ⟨h0, _⟩ | ⟨b', c, h0, h1, h2, h3, h4, h5, h6⟩
      · rw [hb] at h0; cases h0
      · obtain rfl : b = b' := by rw [hb] at h0; exact Option.some.inj h0
        have : c = cur := by rw [hcur] at h1; injection h1 with h1; injection h1 with h1; exact h1.symm
        subst this
        refine .inr ⟨b, cur', hb, by rw [(hh s').2.2.2]; exact hcur', by rw [(hh s').2.2.1, hsz]; exact h2, h3, ?_, ?_, ?_⟩
        · rw [hupd_same]; show es'.length ≤ _; rw [hlen]; exact h4
        · rw [hupd_same]; exact hes
        · rw [hupd_same]
          intro i j e a he ha
          obtain ⟨u, hu, hr'⟩ := hr i j e a he ha
          exact ⟨u, hu, hr'.ext E⟩
    · refine HB.keep E (hupd_ne _ _ hs) rfl rfl (fun k hk => hw.block k ?_ (fun e => hs (S.hp.inj s' s b hl' hl (by rw [← e]; exact hk) hb))) (S.hp.live s' hl')
      rcases S.hp.live s' hl' with ⟨h0, _⟩ | ⟨b', c, h0, h1, _⟩
      · rw [hk] at h0; cases h0
      · obtain rfl : k = b' := by rw [hk] at h0; exact Option.some.inj h0
        exact (Array.getElem?_eq_some_iff.1 h1).1
  · rw [hlive] at h1 h2; exact S.hp.inj s1 s2 k h1 h2
  · rw [hlive] at hl'; exact S.hp.bar s' k hl'
  · rw [hlive] at hl'; exact S.fr s' k hl'

section
variable {d : Nat} {ty : TypeId} {pos : String} {af : Array Edge} {x y : Operand} {av bv : AV}
theorem keep_setRow (w : World) (g : Nat) (cs : Array Value) : Keep (fun k => k = g) w (w.setRow g cs) :=
  ⟨rfl, rfl, rfl, by simp [World.setRow], fun k _ hne => setRow_other w g k cs hne⟩

theorem s_store {T : TypeId} {agg : Bool} {sz : Nat} {z : Value} {bytes i off : Nat} {s : Site} {B : Box} {cs e e' : List AV} (hx : OpV σ.t x (.ptr s B.ver i off)) (hy : OpV σ.t y av) (hc : cellsA av = some cs) (h1 : cs.all oneA = true) (hT : TI P T agg sz z bytes) (hz : cs.length = sz)
    (hB : σ.h s = B) (hl : B.live = true) (he : B.es[i]? = some e) (ho : off + sz ≤ e.length) (he' : e.take off ++ cs ++ e.drop (off + sz) = e') :
    Step P C ops ⟨none, .store T x y, ty, pos, af, none⟩ σ ⟨oprs x (.ptr s B.ver i off) ++ oprs y av, [(s, B)], none, .junk, [(s, { B with es := B.es.set i e' })]⟩ := by
  refine ⟨fun τ a w β hf S K Q hK => ?_, ⟨fapp hx.facts hy.facts, fun p hp => by rw [List.mem_singleton.1 hp]; exact hB⟩⟩
  have hB' : τ.h s = B := hf.2 (s, B) List.mem_cons_self
  subst hB'
  have r1 := hx.rep (fl hf.1) S
  have r2 := hy.rep (fr hf.1) S
  obtain ⟨g1, g2⟩ := cellsA_rep r2 hc
  have hl' : (τ.h s).live = true := hl
  have hver : (τ.h s).ver = (τ.h s).ver := rfl
  generalize hu : a.eval x = u at r1
  cases r1 with
  | ptr v s ver i off h0 h1' h2 =>
    obtain ⟨b, hb, rfl⟩ := h2 hver hl'
    rcases S.hp.live s hl' with ⟨h0, _⟩ | ⟨b', cur, h0, hcur, hcsz, hcap, hle, hes, hrep⟩
    · rw [hb] at h0; cases h0
    · obtain rfl : b = b' := by rw [hb] at h0; exact Option.some.inj h0
      have heL : e.length = (τ.h s).sz := hes e (List.mem_of_getElem? he)
      have hilt : i < (τ.h s).es.length := (List.getElem?_eq_some_iff.1 he).1
      have hvl : (a.eval y).cells.toList.length = sz := by rw [Array.length_toList, g1, hz]
      have hbound : i * (τ.h s).sz + (τ.h s).sz ≤ cur.size := by
        rw [hcsz]
        have : (i + 1) * (τ.h s).sz ≤ β.cap s * (τ.h s).sz := Nat.mul_le_mul_right _ (by omega)
        rw [Nat.add_mul, Nat.one_mul] at this
        exact this
      have hone : ∀ u ∈ (a.eval y).cells.toList, u.oneCell' = true := by
        intro u hu
        obtain ⟨j, hj⟩ := List.mem_iff_getElem?.1 hu
        have hjlt : j < cs.length := by
          have := (List.getElem?_eq_some_iff.1 hj).1
          omega
        have hj' : (a.eval y).cells[j]? = some u := by simpa using hj
        exact oneA_rep (g2 j u cs[j] hj' (by simp)) (List.all_eq_true.1 h1 _ (List.getElem_mem hjlt))
      have hst := run_storeCells_at (P := P) b (i * (τ.h s).sz + off) (τ.h s).T (a.eval y).cells.toList 0 cur w hcur (by rw [hvl]; omega) hone
      rw [if_pos (by simp [Region.wanted])]
      unfold Oper.wp
      have hrun : (execOp a.eval ⟨none, .store T x y, ty, pos, af, none⟩).run P w = .ok .skip (w.setRow b (cur.toList.take (i * (τ.h s).sz + off) ++ (a.eval y).cells.toList ++ cur.toList.drop (i * (τ.h s).sz + off + sz)).toArray) := by
        simp only [execOp, hu, Instr.storeAt, Instr.sureAddr, storeVar, Sem.run_bind, Sem.run_pure, Result.andThen_ok, hT.size]
        have hne : ¬ ((a.eval y).cells.size ≠ sz) := by omega
        rw [if_neg hne]
        (try simp only [Sem.run_bind, Sem.run_pure, Result.andThen_ok])
        rw [hst]
        simp only [Nat.add_zero, hvl, Result.andThen_ok]
      rw [hrun]
      have hcl : cur.toList.length = cur.size := Array.length_toList
      have key := S.inPlace (w' := w.setRow b (cur.toList.take (i * (τ.h s).sz + off) ++ (a.eval y).cells.toList ++ cur.toList.drop (i * (τ.h s).sz + off + sz)).toArray) s hl' hb hcur ((τ.h s).es.set i e') (keep_setRow w b _) (setRow_heap w b cur _ _ _ hcur)
        (by simp [hvl, List.length_take, List.length_drop]; omega) (by simp) (fun q hq => by
          rcases List.mem_or_eq_of_mem_set hq with h | h
          · exact hes q (h)
          · subst h; subst he'; simp [heL, hz, List.length_take, List.length_drop]; omega) (fun i' j q b' hq hb' => by
          rw [List.getElem?_toArray, splice_get cur.toList _ _ sz _ hvl (by omega)]
          rw [List.getElem?_set] at hq
          by_cases hii : i = i'
          · subst hii
            rw [if_pos rfl] at hq
            have hq' : e' = q := by
              split at hq <;> first | exact Option.some.inj hq | (cases hq; done) | (cases hq; rfl)
            subst hq'
            subst he'
            rw [spliceA_get e cs off sz j hz ho] at hb'
            by_cases c1 : j < off
            · rw [if_pos c1] at hb'
              rw [if_pos (by omega)]
              obtain ⟨v, hv, hr⟩ := hrep i j e b' (he) hb'
              exact ⟨v, by simpa using hv, hr⟩
            · rw [if_neg c1] at hb'
              rw [if_neg (by omega)]
              by_cases c2 : j < off + sz
              · rw [if_pos c2] at hb'
                rw [if_pos (by omega)]
                have hjl : j - off < (a.eval y).cells.size := by omega
                refine ⟨(a.eval y).cells[j - off], ?_, g2 (j - off) _ b' (by simp [hjl]) hb'⟩
                rw [show i * (τ.h s).sz + j - (i * (τ.h s).sz + off) = j - off from by omega]
                simp [hjl]
              · rw [if_neg c2] at hb'
                rw [if_neg (by omega)]
                obtain ⟨v, hv, hr⟩ := hrep i j e b' (he) hb'
                exact ⟨v, by simpa using hv, hr⟩
          · rw [if_neg hii] at hq
            obtain ⟨v, hv, hr⟩ := hrep i' j q b' (hq) hb'
            have hqL : q.length = (τ.h s).sz := hes q (List.mem_of_getElem? hq)
            have hjL : j < (τ.h s).sz := by rw [← hqL]; exact (List.getElem?_eq_some_iff.1 hb').1
            refine ⟨v, ?_, hr⟩
            rcases Nat.lt_or_gt_of_ne hii with hlt | hgt
            · have h3 : i * (τ.h s).sz + (τ.h s).sz ≤ i' * (τ.h s).sz := by
                have : (i + 1) * (τ.h s).sz ≤ i' * (τ.h s).sz := Nat.mul_le_mul_right _ hlt
                rw [Nat.add_mul, Nat.one_mul] at this
                exact this
              rw [if_neg (by omega), if_neg (by omega)]
              simpa using hv
            · have h3 := seg_lt (i := i) (i' := i') hgt hjL
              rw [if_pos (by omega)]
              simpa using hv)
      refine hK _ _ β ?_
      exact key
end

end Go.Proofs.YtpbjbnghcbcdiaaDoor.AM
