/- Walks of the frames' functions. Conditions: none. -/
import Derived.Test.YtpbjbnghcbcdiaaDoorTi
import Derived.Test.YtpbjbnghcbcdiaaDoorPure3
set_option linter.unusedVariables false
set_option linter.unusedSimpArgs false
namespace Go.Proofs.YtpbjbnghcbcdiaaDoor.AM
open Go
theorem C_wireSum (b : List UInt8) (hb : b.length < 1000000000000) : Fn Tryd.prog 15 [.sl (b.map eB)] (rOf [U32 (crc b)]) := by
  refine Fn.intro (fn := Tryd.f15) (rs := [2]) (n := 28) (by kernel_rfl) (by kernel_rfl) rfl rfl rfl (Nat.le_of_ble_eq_true rfl) ?_
  intro X w hX hG
  have z : ∀ {d : Nat}, Nat.ble (d + 1) 28 = true → d < (mkC 28 X w hX hG).n := fun h => Nat.le_of_ble_eq_true h
  refine W_r (fun τ => τ = ⟨asc [(0, .sl (b.map eB))], H0⟩) ⟨_, _, _, ch_val (s_assign (z rfl) (k32 0)) <| ch_nil, rfl, ⟨rfl, trivial⟩⟩ ?_
  rintro _ rfl
  refine W_r (fun τ => τ = ⟨asc [(0, .sl (b.map eB)), (3, U32 4294967295)], H0⟩) ⟨_, _, _, ch_val (s_assign (z rfl) (k32 4294967295)) <| ch_nil, rfl, ⟨rfl, rfl, trivial⟩⟩ ?_
  rintro _ rfl
  refine W_seq ?_
  refine W_r (fun τ => τ = ⟨asc [(3, U32 4294967295), (6, .sl (b.map eB)), (7, I (b.length : Int)), (8, I 0)], H0⟩) ⟨_, _, _, ch_val (s_move (z rfl) (.tmp rfl)) <| ch_val (s_lenA (z rfl) (.tmp rfl) uBs) <| ch_val (s_move (z rfl) kI) <| ch_nil, rfl, ⟨rfl, rfl, rfl, rfl, trivial⟩⟩ ?_
  rintro _ rfl
  refine W_block ?_
  refine W_loop (fun n τ => ∃ (i : Nat), i ≤ b.length ∧ n = b.length - i ∧ τ = ⟨asc [(3, U32 (crcFold (b.take i))), (6, .sl (b.map eB)), (7, I (b.length : Int)), (8, I (i : Int))], H0⟩) _ ⟨0, by simp, rfl, rfl⟩ ?_
  rintro n _ ⟨i, hi, rfl, rfl⟩
  refine W_r (fun τ => τ = ⟨asc [(3, U32 (crcFold (b.take i))), (6, .sl (b.map eB)), (7, I (b.length : Int)), (8, I (i : Int)), (9, Bo (decide ((i : Int) < (b.length : Int))))], H0⟩) ⟨_, _, _, ch_val (s_cmp (z rfl) (.tmp rfl) (.tmp rfl) ci_lt) <| ch_nil, rfl, ⟨rfl, rfl, rfl, rfl, rfl, trivial⟩⟩ ?_
  rintro _ rfl
  refine W_seq ?_
  refine W_split (.tmp rfl) (fun c1 => ?_) (fun c1 => ?_)
  · have c1p := of_decide_eq_true c1
    refine W_skip ?_
    show W _ _ _ _ _
    refine W_seq ?_
    refine W_block ?_
    refine W_r (fun τ => τ = ⟨asc [(3, U32 (crcFold (b.take i))), (5, U8 (nth b i)), (6, .sl (b.map eB)), (7, I (b.length : Int)), (8, I (i : Int))], H0⟩) ⟨_, _, _, ch_val (s_indexA (nth_get b i (by first | omega | (simp <;> omega))) (z rfl) (.tmp rfl) (.tmp rfl) uBs tU8 rfl rfl) <| ch_val (s_load_ip (z rfl) (.tmp rfl) tU8 rfl) <| ch_val (s_assign (z rfl) (.tmp rfl)) <| ch_nil, rfl, ⟨rfl, rfl, rfl, rfl, rfl, trivial⟩⟩ ?_
    rintro _ rfl
    refine W_r (fun τ => τ = ⟨asc [(3, U32 ((crcFold (b.take i)) ^^^ ((nth b i).toUInt32))), (6, .sl (b.map eB)), (7, I (b.length : Int)), (8, I (i : Int))], H0⟩) ⟨_, _, _, ch_val (s_move (z rfl) (.tmp rfl)) <| ch_val (s_move (z rfl) (.tmp rfl)) <| ch_val (s_cnv (z rfl) (.tmp rfl) sU8 uU32 v_8_32) <| ch_val (s_ari (z rfl) (.tmp rfl) (.tmp rfl) a32_xor) <| ch_val (s_assign (z rfl) (.tmp rfl)) <| ch_nil, rfl, ⟨rfl, rfl, rfl, rfl, trivial⟩⟩ ?_
    rintro _ rfl
    refine W_r (fun τ => τ = ⟨asc [(3, U32 ((crcFold (b.take i)) ^^^ ((nth b i).toUInt32))), (6, .sl (b.map eB)), (7, I (b.length : Int)), (8, I (i : Int)), (16, I 0)], H0⟩) ⟨_, _, _, ch_val (s_move (z rfl) kI) <| ch_nil, rfl, ⟨rfl, rfl, rfl, rfl, rfl, trivial⟩⟩ ?_
    rintro _ rfl
    refine W_block ?_
    refine W_loop (fun n τ => ∃ (j : Nat), j ≤ 8 ∧ n = 8 - j ∧ τ = ⟨asc [(3, U32 (crcBits j (crcFold (b.take i) ^^^ (nth b i).toUInt32))), (6, .sl (b.map eB)), (7, I (b.length : Int)), (8, I (i : Int)), (16, I (j : Int))], H0⟩) _ ⟨0, by simp, rfl, rfl⟩ ?_
    rintro n _ ⟨j, hj, rfl, rfl⟩
    refine W_r (fun τ => τ = ⟨asc [(3, U32 (crcBits j (crcFold (b.take i) ^^^ (nth b i).toUInt32))), (6, .sl (b.map eB)), (7, I (b.length : Int)), (8, I (i : Int)), (16, I (j : Int)), (17, Bo (decide ((j : Int) < 8)))], H0⟩) ⟨_, _, _, ch_val (s_cmp (z rfl) (.tmp rfl) kI ci_lt) <| ch_nil, rfl, ⟨rfl, rfl, rfl, rfl, rfl, rfl, trivial⟩⟩ ?_
    rintro _ rfl
    refine W_seq ?_
    refine W_split (.tmp rfl) (fun c2 => ?_) (fun c2 => ?_)
    · have c2p := of_decide_eq_true c2
      refine W_skip ?_
      show W _ _ _ _ _
      refine W_seq ?_
      refine W_block ?_
      refine W_r1 (fun τ => τ = ⟨asc [(3, U32 (((crcBits j (crcFold (b.take i) ^^^ (nth b i).toUInt32)) >>> 1) ^^^ (3988292384 * ((crcBits j (crcFold (b.take i) ^^^ (nth b i).toUInt32)) &&& 1)))), (6, .sl (b.map eB)), (7, I (b.length : Int)), (8, I (i : Int)), (16, I (j : Int))], H0⟩) ⟨_, _, _, ch_val (s_move (z rfl) (.tmp rfl)) <| ch_val (s_shr32 1 (z rfl) (.tmp rfl) (.const _)) <| ch_val (s_move (z rfl) (.tmp rfl)) <| ch_val (s_ari (z rfl) (.tmp rfl) (k32 1) a32_and) <| ch_val (s_ari (z rfl) (k32 3988292384) (.tmp rfl) a32_mul) <| ch_val (s_ari (z rfl) (.tmp rfl) (.tmp rfl) a32_xor) <| ch_val (s_assign (z rfl) (.tmp rfl)) <| ch_nil, rfl, ⟨rfl, rfl, rfl, rfl, rfl, trivial⟩⟩ ?_
      rintro _ rfl
      show W _ _ _ _ _
      refine W_r1 (fun τ => τ = ⟨asc [(3, U32 (((crcBits j (crcFold (b.take i) ^^^ (nth b i).toUInt32)) >>> 1) ^^^ (3988292384 * ((crcBits j (crcFold (b.take i) ^^^ (nth b i).toUInt32)) &&& 1)))), (6, .sl (b.map eB)), (7, I (b.length : Int)), (8, I (i : Int)), (16, I ((j : Int) + 1))], H0⟩) ⟨_, _, _, ch_val (s_ari (z rfl) (.tmp rfl) kI (ai_add (by omega))) <| ch_val (s_move (z rfl) (.tmp rfl)) <| ch_nil, rfl, ⟨rfl, rfl, rfl, rfl, rfl, trivial⟩⟩ ?_
      rintro _ rfl
      exact ⟨_, (by omega : 8 - (j + 1) < 8 - j), j + 1, by omega, rfl, rfl⟩
    · have c2p := of_decide_eq_false c2
      refine W_exit ?_
      show W _ _ _ _ _
      refine W_r1 (fun τ => τ = ⟨asc [(3, U32 (crcBits j (crcFold (b.take i) ^^^ (nth b i).toUInt32))), (6, .sl (b.map eB)), (7, I (b.length : Int)), (8, I ((i : Int) + 1))], H0⟩) ⟨_, _, _, ch_val (s_ari (z rfl) (.tmp rfl) kI (ai_add (by omega))) <| ch_val (s_move (z rfl) (.tmp rfl)) <| ch_nil, rfl, ⟨rfl, rfl, rfl, rfl, trivial⟩⟩ ?_
      rintro _ rfl
      exact ⟨_, (by omega : b.length - (i + 1) < b.length - i), i + 1, by omega, rfl, (by rw [show j = 8 from by omega, crcFold_step (by omega)]; rfl)⟩
  · have c1p := of_decide_eq_false c1
    refine W_exit ?_
    show W _ _ _ _ _
    refine W_r (fun τ => τ = ⟨asc [(2, U32 ((crcFold (b.take i)) ^^^ 4294967295))], H0⟩) ⟨_, _, _, ch_val (s_move (z rfl) (.tmp rfl)) <| ch_val (s_not32 (z rfl) (.tmp rfl)) <| ch_val (s_assign (z rfl) (.tmp rfl)) <| ch_nil, rfl, ⟨rfl, trivial⟩⟩ ?_
    rintro _ rfl
    refine W_ret (Fin.of (r' := [U32 ((crcFold (b.take i)) ^^^ 4294967295)]) (.pur (.c _) .nil) rfl ?_)
    obtain rfl : i = b.length := by omega
    rw [List.take_length]; rfl
theorem C_refSum (b : List UInt8) (hb : b.length < 1000000000000) : Fn Tryd.prog 16 [.sl (b.map eB)] (rOf [U32 (refSum b)]) := by
  refine Fn.intro (fn := Tryd.f16) (rs := [2]) (n := 37) (by kernel_rfl) (by kernel_rfl) rfl rfl rfl (Nat.le_of_ble_eq_true rfl) ?_
  intro X w hX hG
  have z : ∀ {d : Nat}, Nat.ble (d + 1) 37 = true → d < (mkC 37 X w hX hG).n := fun h => Nat.le_of_ble_eq_true h
  refine W_r (fun τ => τ = ⟨asc [(0, .sl (b.map eB))], H0⟩) ⟨_, _, _, ch_val (s_assign (z rfl) (k32 0)) <| ch_nil, rfl, ⟨rfl, trivial⟩⟩ ?_
  rintro _ rfl
  refine W_r (fun τ => τ = ⟨asc [(0, .sl (b.map eB)), (3, U32 4294967295)], H0⟩) ⟨_, _, _, ch_val (s_assign (z rfl) (k32 4294967295)) <| ch_nil, rfl, ⟨rfl, rfl, trivial⟩⟩ ?_
  rintro _ rfl
  refine W_seq ?_
  refine W_r (fun τ => τ = ⟨asc [(0, .sl (b.map eB)), (3, U32 4294967295), (4, I 0)], H0⟩) ⟨_, _, _, ch_val (s_assign (z rfl) kI) <| ch_nil, rfl, ⟨rfl, rfl, rfl, trivial⟩⟩ ?_
  rintro _ rfl
  refine W_block ?_
  refine W_loop (fun n τ => ∃ (i : Nat), i ≤ b.length ∧ n = b.length - i ∧ τ = ⟨asc [(0, .sl (b.map eB)), (3, U32 (refFold (b.take i))), (4, I (i : Int))], H0⟩) _ ⟨0, by simp, rfl, rfl⟩ ?_
  rintro n _ ⟨i, hi, rfl, rfl⟩
  refine W_seq ?_
  refine W_r (fun τ => τ = ⟨asc [(0, .sl (b.map eB)), (3, U32 (refFold (b.take i))), (4, I (i : Int)), (11, Bo (decide ((i : Int) < (b.length : Int))))], H0⟩) ⟨_, _, _, ch_val (s_move (z rfl) (.tmp rfl)) <| ch_val (s_move (z rfl) (.tmp rfl)) <| ch_val (s_lenA (z rfl) (.tmp rfl) uBs) <| ch_val (s_cmp (z rfl) (.tmp rfl) (.tmp rfl) ci_lt) <| ch_nil, rfl, ⟨rfl, rfl, rfl, rfl, trivial⟩⟩ ?_
  rintro _ rfl
  refine W_split (.tmp rfl) (fun c1 => ?_) (fun c1 => ?_)
  · have c1p := of_decide_eq_true c1
    refine W_skip ?_
    show W _ _ _ _ _
    refine W_seq ?_
    refine W_block ?_
    refine W_r (fun τ => τ = ⟨asc [(0, .sl (b.map eB)), (3, U32 (refFold (b.take i))), (4, I (i : Int)), (5, U8 (nth b i))], H0⟩) ⟨_, _, _, ch_val (s_move (z rfl) (.tmp rfl)) <| ch_val (s_move (z rfl) (.tmp rfl)) <| ch_val (s_indexA (nth_get b i (by first | omega | (simp <;> omega))) (z rfl) (.tmp rfl) (.tmp rfl) uBs tU8 rfl rfl) <| ch_val (s_load_ip (z rfl) (.tmp rfl) tU8 rfl) <| ch_val (s_assign (z rfl) (.tmp rfl)) <| ch_nil, rfl, ⟨rfl, rfl, rfl, rfl, trivial⟩⟩ ?_
    rintro _ rfl
    refine W_r (fun τ => τ = ⟨asc [(0, .sl (b.map eB)), (3, U32 (refFold (b.take i))), (4, I (i : Int)), (5, U8 (nth b i)), (6, I 0)], H0⟩) ⟨_, _, _, ch_val (s_assign (z rfl) kI) <| ch_nil, rfl, ⟨rfl, rfl, rfl, rfl, rfl, trivial⟩⟩ ?_
    rintro _ rfl
    refine W_block ?_
    refine W_loop (fun n τ => ∃ (j : Nat), j ≤ 8 ∧ n = 8 - j ∧ τ = ⟨asc [(0, .sl (b.map eB)), (3, U32 ((refBits j (refFold (b.take i), nth b i)).1)), (4, I (i : Int)), (5, U8 ((refBits j (refFold (b.take i), nth b i)).2)), (6, I (j : Int))], H0⟩) _ ⟨0, by simp, rfl, rfl⟩ ?_
    rintro n _ ⟨j, hj, rfl, rfl⟩
    refine W_seq ?_
    refine W_r (fun τ => τ = ⟨asc [(0, .sl (b.map eB)), (3, U32 ((refBits j (refFold (b.take i), nth b i)).1)), (4, I (i : Int)), (5, U8 ((refBits j (refFold (b.take i), nth b i)).2)), (6, I (j : Int)), (19, Bo (decide ((j : Int) < 8)))], H0⟩) ⟨_, _, _, ch_val (s_move (z rfl) (.tmp rfl)) <| ch_val (s_cmp (z rfl) (.tmp rfl) kI ci_lt) <| ch_nil, rfl, ⟨rfl, rfl, rfl, rfl, rfl, rfl, trivial⟩⟩ ?_
    rintro _ rfl
    refine W_split (.tmp rfl) (fun c2 => ?_) (fun c2 => ?_)
    · have c2p := of_decide_eq_true c2
      refine W_skip ?_
      show W _ _ _ _ _
      refine W_seq ?_
      refine W_block ?_
      refine W_r (fun τ => τ = ⟨asc [(0, .sl (b.map eB)), (3, U32 ((refBits j (refFold (b.take i), nth b i)).1)), (4, I (i : Int)), (5, U8 ((refBits j (refFold (b.take i), nth b i)).2)), (6, I (j : Int)), (7, Bo (!decide ((((refBits j (refFold (b.take i), nth b i)).1) % 2) = ((((refBits j (refFold (b.take i), nth b i)).2) % 2).toUInt32))))], H0⟩) ⟨_, _, _, ch_val (s_move (z rfl) (.tmp rfl)) <| ch_val (s_ari (z rfl) (.tmp rfl) (k32 2) a32_rem) <| ch_val (s_move (z rfl) (.tmp rfl)) <| ch_val (s_ari (z rfl) (.tmp rfl) (k8 2) a8_rem) <| ch_val (s_cnv (z rfl) (.tmp rfl) sU8 uU32 v_8_32) <| ch_val (s_cmp (z rfl) (.tmp rfl) (.tmp rfl) c32_ne) <| ch_val (s_assign (z rfl) (.tmp rfl)) <| ch_nil, rfl, ⟨rfl, rfl, rfl, rfl, rfl, rfl, trivial⟩⟩ ?_
      rintro _ rfl
      refine W_r (fun τ => τ = ⟨asc [(0, .sl (b.map eB)), (3, U32 (((refBits j (refFold (b.take i), nth b i)).1) / 2)), (4, I (i : Int)), (5, U8 ((refBits j (refFold (b.take i), nth b i)).2)), (6, I (j : Int)), (7, Bo (!decide ((((refBits j (refFold (b.take i), nth b i)).1) % 2) = ((((refBits j (refFold (b.take i), nth b i)).2) % 2).toUInt32))))], H0⟩) ⟨_, _, _, ch_val (s_move (z rfl) (.tmp rfl)) <| ch_val (s_ari (z rfl) (.tmp rfl) (k32 2) a32_quo) <| ch_val (s_assign (z rfl) (.tmp rfl)) <| ch_nil, rfl, ⟨rfl, rfl, rfl, rfl, rfl, rfl, trivial⟩⟩ ?_
      rintro _ rfl
      refine W_r (fun τ => τ = ⟨asc [(0, .sl (b.map eB)), (3, U32 (((refBits j (refFold (b.take i), nth b i)).1) / 2)), (4, I (i : Int)), (5, U8 (((refBits j (refFold (b.take i), nth b i)).2) / 2)), (6, I (j : Int)), (7, Bo (!decide ((((refBits j (refFold (b.take i), nth b i)).1) % 2) = ((((refBits j (refFold (b.take i), nth b i)).2) % 2).toUInt32))))], H0⟩) ⟨_, _, _, ch_val (s_move (z rfl) (.tmp rfl)) <| ch_val (s_ari (z rfl) (.tmp rfl) (k8 2) a8_quo) <| ch_val (s_assign (z rfl) (.tmp rfl)) <| ch_nil, rfl, ⟨rfl, rfl, rfl, rfl, rfl, rfl, trivial⟩⟩ ?_
      rintro _ rfl
      refine W_r (fun τ => τ = ⟨asc [(0, .sl (b.map eB)), (3, U32 (((refBits j (refFold (b.take i), nth b i)).1) / 2)), (4, I (i : Int)), (5, U8 (((refBits j (refFold (b.take i), nth b i)).2) / 2)), (6, I (j : Int)), (32, Bo (!decide ((((refBits j (refFold (b.take i), nth b i)).1) % 2) = ((((refBits j (refFold (b.take i), nth b i)).2) % 2).toUInt32))))], H0⟩) ⟨_, _, _, ch_val (s_move (z rfl) (.tmp rfl)) <| ch_nil, rfl, ⟨rfl, rfl, rfl, rfl, rfl, rfl, trivial⟩⟩ ?_
      rintro _ rfl
      refine W_split (.tmp rfl) (fun c3 => ?_) (fun c3 => ?_)
      · have c3p := not_true_ c3
        refine W_r1 (fun τ => τ = ⟨asc [(0, .sl (b.map eB)), (3, U32 ((((refBits j (refFold (b.take i), nth b i)).1) / 2) ^^^ 3988292384)), (4, I (i : Int)), (5, U8 (((refBits j (refFold (b.take i), nth b i)).2) / 2)), (6, I (j : Int))], H0⟩) ⟨_, _, _, ch_val (s_move (z rfl) (.tmp rfl)) <| ch_val (s_ari (z rfl) (.tmp rfl) (k32 3988292384) a32_xor) <| ch_val (s_assign (z rfl) (.tmp rfl)) <| ch_nil, rfl, ⟨rfl, rfl, rfl, rfl, rfl, trivial⟩⟩ ?_
        rintro _ rfl
        show W _ _ _ _ _
        refine W_r1 (fun τ => τ = ⟨asc [(0, .sl (b.map eB)), (3, U32 ((((refBits j (refFold (b.take i), nth b i)).1) / 2) ^^^ 3988292384)), (4, I (i : Int)), (5, U8 (((refBits j (refFold (b.take i), nth b i)).2) / 2)), (6, I ((j : Int) + 1))], H0⟩) ⟨_, _, _, ch_val (s_move (z rfl) (.tmp rfl)) <| ch_val (s_ari (z rfl) (.tmp rfl) kI (ai_add (by omega))) <| ch_val (s_assign (z rfl) (.tmp rfl)) <| ch_nil, rfl, ⟨rfl, rfl, rfl, rfl, rfl, trivial⟩⟩ ?_
        rintro _ rfl
        exact ⟨_, (by omega : 8 - (j + 1) < 8 - j), j + 1, by omega, rfl, (by simp only [refBits, refBit, c1, c2, c3]; rfl)⟩
      · have c3p := not_false_ c3
        refine W_skip ?_
        show W _ _ _ _ _
        refine W_r1 (fun τ => τ = ⟨asc [(0, .sl (b.map eB)), (3, U32 (((refBits j (refFold (b.take i), nth b i)).1) / 2)), (4, I (i : Int)), (5, U8 (((refBits j (refFold (b.take i), nth b i)).2) / 2)), (6, I ((j : Int) + 1))], H0⟩) ⟨_, _, _, ch_val (s_move (z rfl) (.tmp rfl)) <| ch_val (s_ari (z rfl) (.tmp rfl) kI (ai_add (by omega))) <| ch_val (s_assign (z rfl) (.tmp rfl)) <| ch_nil, rfl, ⟨rfl, rfl, rfl, rfl, rfl, trivial⟩⟩ ?_
        rintro _ rfl
        exact ⟨_, (by omega : 8 - (j + 1) < 8 - j), j + 1, by omega, rfl, (by simp only [refBits, refBit, c1, c2, c3]; rfl)⟩
    · have c2p := of_decide_eq_false c2
      refine W_exit ?_
      show W _ _ _ _ _
      refine W_r1 (fun τ => τ = ⟨asc [(0, .sl (b.map eB)), (3, U32 ((refBits j (refFold (b.take i), nth b i)).1)), (4, I ((i : Int) + 1))], H0⟩) ⟨_, _, _, ch_val (s_move (z rfl) (.tmp rfl)) <| ch_val (s_ari (z rfl) (.tmp rfl) kI (ai_add (by omega))) <| ch_val (s_assign (z rfl) (.tmp rfl)) <| ch_nil, rfl, ⟨rfl, rfl, rfl, trivial⟩⟩ ?_
      rintro _ rfl
      exact ⟨_, (by omega : b.length - (i + 1) < b.length - i), i + 1, by omega, rfl, (by rw [show j = 8 from by omega, refFold_step (by omega)]; rfl)⟩
  · have c1p := of_decide_eq_false c1
    refine W_exit ?_
    show W _ _ _ _ _
    refine W_r (fun τ => τ = ⟨asc [(2, U32 ((refFold (b.take i)) ^^^ 4294967295))], H0⟩) ⟨_, _, _, ch_val (s_move (z rfl) (.tmp rfl)) <| ch_val (s_ari (z rfl) (.tmp rfl) (k32 4294967295) a32_xor) <| ch_val (s_assign (z rfl) (.tmp rfl)) <| ch_nil, rfl, ⟨rfl, trivial⟩⟩ ?_
    rintro _ rfl
    refine W_ret (Fin.of (r' := [U32 ((refFold (b.take i)) ^^^ 4294967295)]) (.pur (.c _) .nil) rfl ?_)
    obtain rfl : i = b.length := by omega
    rw [List.take_length]; rfl
theorem C_refFour (w0 : UInt32) : Fn Tryd.prog 30 [U32 w0] (rOf [.sl ((refFour w0).map eB)]) := by
  refine Fn.intro (fn := Tryd.f30) (rs := [2]) (n := 18) (by kernel_rfl) (by kernel_rfl) rfl rfl rfl (Nat.le_of_ble_eq_true rfl) ?_
  intro X w hX hG
  have z : ∀ {d : Nat}, Nat.ble (d + 1) 18 = true → d < (mkC 18 X w hX hG).n := fun h => Nat.le_of_ble_eq_true h
  refine W_r (fun τ => τ = ⟨asc [(0, U32 w0)], H0⟩) ⟨_, _, _, ch_val (s_assign (z rfl) (.const _)) <| ch_nil, rfl, ⟨rfl, trivial⟩⟩ ?_
  rintro _ rfl
  refine W_r (fun τ => ∃ (h1 : Heap) (v2 : Nat), τ = ⟨asc [(2, .own (.loc 17) v2 ([(w0 / 16777216).toUInt8, ((w0 / 65536) % 256).toUInt8, ((w0 / 256) % 256).toUInt8, (w0 % 256).toUInt8]).length)], h1⟩ ∧ h1 (.loc 17) = ⟨v2, true, 5, 1, ([(w0 / 16777216).toUInt8, ((w0 / 65536) % 256).toUInt8, ((w0 / 256) % 256).toUInt8, (w0 % 256).toUInt8]).map eB⟩) ⟨_, _, _, ch_val (s_move (z rfl) (.tmp rfl)) <| ch_val (s_ari (z rfl) (.tmp rfl) (k32 16777216) a32_quo) <| ch_val (s_cnv (z rfl) (.tmp rfl) sU32 uU8 v_32_8) <| ch_val (s_move (z rfl) (.tmp rfl)) <| ch_val (s_ari (z rfl) (.tmp rfl) (k32 65536) a32_quo) <| ch_val (s_ari (z rfl) (.tmp rfl) (k32 256) a32_rem) <| ch_val (s_cnv (z rfl) (.tmp rfl) sU32 uU8 v_32_8) <| ch_val (s_move (z rfl) (.tmp rfl)) <| ch_val (s_ari (z rfl) (.tmp rfl) (k32 256) a32_quo) <| ch_val (s_ari (z rfl) (.tmp rfl) (k32 256) a32_rem) <| ch_val (s_cnv (z rfl) (.tmp rfl) sU32 uU8 v_32_8) <| ch_val (s_move (z rfl) (.tmp rfl)) <| ch_val (s_ari (z rfl) (.tmp rfl) (k32 256) a32_rem) <| ch_val (s_cnv (z rfl) (.tmp rfl) sU32 uU8 v_32_8) <| ch_h (s_bsA ([(w0 / 16777216).toUInt8, ((w0 / 65536) % 256).toUInt8, ((w0 / 256) % 256).toUInt8, (w0 % 256).toUInt8]) encB (z rfl) uBs tU8 (.cons (.tmp rfl) rfl (.cons (.tmp rfl) rfl (.cons (.tmp rfl) rfl (.cons (.tmp rfl) rfl (.nil _))))) rfl (by decide) rfl) <| ch_val (s_assign (z rfl) (.tmp rfl)) <| ch_nil, ⟨_, _,  rfl, rfl⟩, ⟨rfl, trivial⟩⟩ ?_
  rintro _ ⟨h1, v2,  rfl, hb3⟩
  refine W_ret (Fin.of (r' := [.sl (([(w0 / 16777216).toUInt8, ((w0 / 65536) % 256).toUInt8, ((w0 / 256) % 256).toUInt8, (w0 % 256).toUInt8]).map eB)]) (.ownA encB (.loc 17) _ _ trivial hb3 .nil) rfl ?_)
  rfl
theorem C_wireBig (v0 : Nat) (b : List UInt8) (n : UInt32) (hb : b.length < 1000000000000) : FnS Tryd.prog 28 [⟨v0, true, 5, 1, b.map eB⟩] [.own (.up 0) v0 b.length, U32 n] [⟨v0 + 1, false, 5, 1, []⟩] [⟨1, true, 5, 1, (pBig b n).map eB⟩] (rOf [.own (.loc 0) 1 (pBig b n).length]) := by
  refine FnS.intro (fn := Tryd.f28) (rs := [4]) (n := 19) (by kernel_rfl) (by kernel_rfl) rfl rfl rfl (Nat.le_of_ble_eq_true rfl) ?_
  intro X w β hX hb hG
  have z : ∀ {d : Nat}, Nat.ble (d + 1) 19 = true → d < (mkS 19 X w (bx [⟨v0, true, 5, 1, b.map eB⟩]) β hX hb hG).n := fun h => Nat.le_of_ble_eq_true h
  refine W_r (fun τ => τ = ⟨asc [(0, .own (.up 0) v0 b.length), (1, U32 n)], (bx [⟨v0, true, 5, 1, b.map eB⟩])⟩) ⟨_, _, _, ch_val (s_assign (z rfl) (.const _)) <| ch_nil, rfl, ⟨rfl, rfl, trivial⟩⟩ ?_
  rintro _ rfl
  refine W_r (fun τ => ∃ (h1 : Heap) (v2 : Nat), τ = ⟨asc [(4, .own (.up 0) v2 (b ++ ([(n >>> 24).toUInt8, (n >>> 16).toUInt8, (n >>> 8).toUInt8, n.toUInt8])).length)], h1⟩ ∧ h1 (.up 0) = ⟨v2, true, 5, 1, (b ++ ([(n >>> 24).toUInt8, (n >>> 16).toUInt8, (n >>> 8).toUInt8, n.toUInt8])).map eB⟩) ⟨_, _, _, ch_val (s_move (z rfl) (.tmp rfl)) <| ch_val (s_move (z rfl) (.tmp rfl)) <| ch_val (s_shr32 24 (z rfl) (.tmp rfl) (.const _)) <| ch_val (s_cnv (z rfl) (.tmp rfl) sU32 uU8 v_32_8) <| ch_val (s_move (z rfl) (.tmp rfl)) <| ch_val (s_shr32 16 (z rfl) (.tmp rfl) (.const _)) <| ch_val (s_cnv (z rfl) (.tmp rfl) sU32 uU8 v_32_8) <| ch_val (s_move (z rfl) (.tmp rfl)) <| ch_val (s_shr32 8 (z rfl) (.tmp rfl) (.const _)) <| ch_val (s_cnv (z rfl) (.tmp rfl) sU32 uU8 v_32_8) <| ch_val (s_move (z rfl) (.tmp rfl)) <| ch_val (s_cnv (z rfl) (.tmp rfl) sU32 uU8 v_32_8) <| ch_h (s_bsA ([(n >>> 24).toUInt8, (n >>> 16).toUInt8, (n >>> 8).toUInt8, n.toUInt8]) encB (z rfl) uBs tU8 (.cons (.tmp rfl) rfl (.cons (.tmp rfl) rfl (.cons (.tmp rfl) rfl (.cons (.tmp rfl) rfl (.nil _))))) rfl (by decide) rfl) <| ch_h (s_appA (.up 0) _ b ([(n >>> 24).toUInt8, (n >>> 16).toUInt8, (n >>> 8).toUInt8, n.toUInt8]) rfl encB (z rfl) (.tmp rfl) (.tmp rfl) (svOwn (.loc 17) _ ([(n >>> 24).toUInt8, (n >>> 16).toUInt8, (n >>> 8).toUInt8, n.toUInt8]) rfl) uBs tU8 (by simp <;> omega)) <| ch_val (s_assign (z rfl) (.tmp rfl)) <| ch_nil, ⟨_, _,  rfl, rfl⟩, ⟨rfl, trivial⟩⟩ ?_
  rintro _ ⟨h1, v2,  rfl, hb3⟩
  refine W_ret ?_
  exact FinS.app (.up 0) _ _ _ hb3 (encB.purs _) rfl
theorem C_wireBigNil (n : UInt32) : FnS Tryd.prog 28 [] [nilS, U32 n] [] [⟨1, true, 5, 1, (pBig [] n).map eB⟩] (rOf [.own (.loc 0) 1 (pBig [] n).length]) := by
  refine FnS.intro (fn := Tryd.f28) (rs := [4]) (n := 19) (by kernel_rfl) (by kernel_rfl) rfl rfl rfl (Nat.le_of_ble_eq_true rfl) ?_
  intro X w β hX hb hG
  have z : ∀ {d : Nat}, Nat.ble (d + 1) 19 = true → d < (mkS 19 X w (bx []) β hX hb hG).n := fun h => Nat.le_of_ble_eq_true h
  refine W_r (fun τ => τ = ⟨asc [(0, nilS), (1, U32 n)], (bx [])⟩) ⟨_, _, _, ch_val (s_assign (z rfl) (.const _)) <| ch_nil, rfl, ⟨rfl, rfl, trivial⟩⟩ ?_
  rintro _ rfl
  refine W_r (fun τ => ∃ (h1 : Heap) (v2 : Nat), τ = ⟨asc [(4, .own (.loc 18) v2 ([(n >>> 24).toUInt8, (n >>> 16).toUInt8, (n >>> 8).toUInt8, n.toUInt8]).length)], h1⟩ ∧ h1 (.loc 18) = ⟨v2, true, 5, 1, ([(n >>> 24).toUInt8, (n >>> 16).toUInt8, (n >>> 8).toUInt8, n.toUInt8]).map eB⟩) ⟨_, _, _, ch_val (s_move (z rfl) (.tmp rfl)) <| ch_val (s_move (z rfl) (.tmp rfl)) <| ch_val (s_shr32 24 (z rfl) (.tmp rfl) (.const _)) <| ch_val (s_cnv (z rfl) (.tmp rfl) sU32 uU8 v_32_8) <| ch_val (s_move (z rfl) (.tmp rfl)) <| ch_val (s_shr32 16 (z rfl) (.tmp rfl) (.const _)) <| ch_val (s_cnv (z rfl) (.tmp rfl) sU32 uU8 v_32_8) <| ch_val (s_move (z rfl) (.tmp rfl)) <| ch_val (s_shr32 8 (z rfl) (.tmp rfl) (.const _)) <| ch_val (s_cnv (z rfl) (.tmp rfl) sU32 uU8 v_32_8) <| ch_val (s_move (z rfl) (.tmp rfl)) <| ch_val (s_cnv (z rfl) (.tmp rfl) sU32 uU8 v_32_8) <| ch_h (s_bsA ([(n >>> 24).toUInt8, (n >>> 16).toUInt8, (n >>> 8).toUInt8, n.toUInt8]) encB (z rfl) uBs tU8 (.cons (.tmp rfl) rfl (.cons (.tmp rfl) rfl (.cons (.tmp rfl) rfl (.cons (.tmp rfl) rfl (.nil _))))) rfl (by decide) rfl) <| ch_h (s_appNil (.loc 18) ([(n >>> 24).toUInt8, (n >>> 16).toUInt8, (n >>> 8).toUInt8, n.toUInt8]) rfl encB (z rfl) (.tmp rfl) (.tmp rfl) (svOwn (.loc 17) _ ([(n >>> 24).toUInt8, (n >>> 16).toUInt8, (n >>> 8).toUInt8, n.toUInt8]) rfl) uBs tU8 (by simp <;> omega)) <| ch_val (s_assign (z rfl) (.tmp rfl)) <| ch_nil, ⟨_, _,  rfl, rfl⟩, ⟨rfl, trivial⟩⟩ ?_
  rintro _ ⟨h1, v2,  rfl, hb3⟩
  refine W_ret ?_
  skip
  exact FinS.new (.loc 18) _ _ hb3 (encB.purs _) rfl
theorem C_wireSeal (b : List UInt8) (hb : b.length < 1000000000000) : Fn Tryd.prog 9 [.sl (b.map eB)] (rOf [.sl ((pSeal b).1.map eB), erA (pSeal b).2]) := by
  refine Fn.intro (fn := Tryd.f9) (rs := [2, 3]) (n := 23) (by kernel_rfl) (by kernel_rfl) rfl rfl rfl (Nat.le_of_ble_eq_true rfl) ?_
  intro X w hX hG
  have z : ∀ {d : Nat}, Nat.ble (d + 1) 23 = true → d < (mkC 23 X w hX hG).n := fun h => Nat.le_of_ble_eq_true h
  refine W_r (fun τ => τ = ⟨asc [(0, .sl (b.map eB))], H0⟩) ⟨_, _, _, ch_val (s_assign (z rfl) (.const _)) <| ch_val (s_assign (z rfl) (.const _)) <| ch_nil, rfl, ⟨rfl, trivial⟩⟩ ?_
  rintro _ rfl
  refine W_seq ?_
  refine W_r (fun τ => τ = ⟨asc [(0, .sl (b.map eB)), (7, Bo (decide (4096 < (b.length : Int))))], H0⟩) ⟨_, _, _, ch_val (s_move (z rfl) (.tmp rfl)) <| ch_val (s_lenA (z rfl) (.tmp rfl) uBs) <| ch_val (s_cmp (z rfl) (.tmp rfl) kI ci_gt) <| ch_nil, rfl, ⟨rfl, rfl, trivial⟩⟩ ?_
  rintro _ rfl
  refine W_split (.tmp rfl) (fun c1 => ?_) (fun c1 => ?_)
  · have c1p := of_decide_eq_true c1
    refine W_r (fun τ => τ = ⟨asc [(2, nilS), (3, erA (.code 5))], H0⟩) ⟨_, _, _, ch_val (s_mkif (z rfl) kI cCode rfl) <| ch_val (s_assign (z rfl) (.const _)) <| ch_val (s_assign (z rfl) (.tmp rfl)) <| ch_nil, rfl, ⟨rfl, rfl, trivial⟩⟩ ?_
    rintro _ rfl
    refine W_ret (Fin.of (r' := [.sl [], erA (.code 5)]) (.nils (.pur (flat_er _).pur .nil)) rfl ?_)
    simp only [pSeal, c1]; rfl
  · have c1p := of_decide_eq_false c1
    refine W_skip ?_
    show W _ _ _ _ _
    refine W_r (fun τ => ∃ (h2 : Heap) (v3 : Nat), τ = ⟨asc [(4, .own (.loc 16) v3 (([UInt8.ofInt ((b.length : Int) / 256), UInt8.ofInt (b.length : Int)]) ++ b).length)], h2⟩ ∧ h2 (.loc 16) = ⟨v3, true, 5, 1, (([UInt8.ofInt ((b.length : Int) / 256), UInt8.ofInt (b.length : Int)]) ++ b).map eB⟩) ⟨_, _, _, ch_val (s_move (z rfl) (.tmp rfl)) <| ch_val (s_lenA (z rfl) (.tmp rfl) uBs) <| ch_val (s_shrI 8 (z rfl) (.tmp rfl) (.const _)) <| ch_val (s_cnv (z rfl) (.tmp rfl) sI uU8 v_i_8) <| ch_val (s_move (z rfl) (.tmp rfl)) <| ch_val (s_lenA (z rfl) (.tmp rfl) uBs) <| ch_val (s_cnv (z rfl) (.tmp rfl) sI uU8 v_i_8) <| ch_h (s_bsA ([UInt8.ofInt ((b.length : Int) / 256), UInt8.ofInt (b.length : Int)]) encB (z rfl) uBs tU8 (.cons (.tmp rfl) rfl (.cons (.tmp rfl) rfl (.nil _))) rfl (by decide) rfl) <| ch_val (s_move (z rfl) (.tmp rfl)) <| ch_h (s_appA (.loc 16) _ ([UInt8.ofInt ((b.length : Int) / 256), UInt8.ofInt (b.length : Int)]) b rfl encB (z rfl) (.tmp rfl) (.tmp rfl) (.sl _) uBs tU8 (by simp <;> omega)) <| ch_val (s_assign (z rfl) (.tmp rfl)) <| ch_nil, ⟨_, _,  rfl, rfl⟩, ⟨rfl, trivial⟩⟩ ?_
    rintro _ ⟨h2, v3,  rfl, hb4⟩
    refine W_r (fun τ => ∃ (h5 : Heap) (v6 : Nat), τ = ⟨asc [(2, .own (.loc 16) v6 (pBig (([UInt8.ofInt ((b.length : Int) / 256), UInt8.ofInt (b.length : Int)]) ++ b) (crc (([UInt8.ofInt ((b.length : Int) / 256), UInt8.ofInt (b.length : Int)]) ++ b))).length), (3, nilE)], h5⟩ ∧ h5 (.loc 16) = ⟨v6, true, 5, 1, (pBig (([UInt8.ofInt ((b.length : Int) / 256), UInt8.ofInt (b.length : Int)]) ++ b) (crc (([UInt8.ofInt ((b.length : Int) / 256), UInt8.ofInt (b.length : Int)]) ++ b))).map eB⟩) ⟨_, _, _, ch_val (s_move (z rfl) (.tmp rfl)) <| ch_val (s_move (z rfl) (.tmp rfl)) <| ch_val (s_call (Ls := [(.loc 16)]) (z rfl) (.func _) (.cons (.tmp rfl) .nil) (.ownA encB (.loc 16) _ (([UInt8.ofInt ((b.length : Int) / 256), UInt8.ofInt (b.length : Int)]) ++ b) (by simp) hb4 .nil) (C_wireSum (([UInt8.ofInt ((b.length : Int) / 256), UInt8.ofInt (b.length : Int)]) ++ b) (by first | omega | (simp <;> omega))) (Flat.c _).pur (.inr (Flat.c _))) <| ch_h (s_callApp (.loc 16) _ hb4 (encB.purs _) (encB.purs _) (C_wireBig _ (([UInt8.ofInt ((b.length : Int) / 256), UInt8.ofInt (b.length : Int)]) ++ b) (crc (([UInt8.ofInt ((b.length : Int) / 256), UInt8.ofInt (b.length : Int)]) ++ b)) (by first | omega | (simp <;> omega))) (z rfl) (.func _) (.cons (.tmp rfl) (.cons (.tmp rfl) .nil)) (.cons (.c _) .nil)) <| ch_val (s_assign (z rfl) (.tmp rfl)) <| ch_val (s_assign (z rfl) (.const _)) <| ch_nil, ⟨_, _,  rfl, rfl⟩, ⟨rfl, rfl, trivial⟩⟩ ?_
    rintro _ ⟨h5, v6,  rfl, hb7⟩
    refine W_ret (Fin.of (r' := [.sl ((pBig (([UInt8.ofInt ((b.length : Int) / 256), UInt8.ofInt (b.length : Int)]) ++ b) (crc (([UInt8.ofInt ((b.length : Int) / 256), UInt8.ofInt (b.length : Int)]) ++ b))).map eB), nilE]) (.ownA encB (.loc 16) _ _ trivial hb7 (.pur (.c _) .nil)) rfl ?_)
    simp only [pSeal, c1]; rfl
theorem C_wireOpen (b : List UInt8) (hb : b.length < 1000000000000) : Fn Tryd.prog 13 [.sl (b.map eB)] (rOf [.sl ((pOpen b).1.map eB), erA (pOpen b).2]) := by
  refine Fn.intro (fn := Tryd.f13) (rs := [2, 3]) (n := 48) (by kernel_rfl) (by kernel_rfl) rfl rfl rfl (Nat.le_of_ble_eq_true rfl) ?_
  intro X w hX hG
  have z : ∀ {d : Nat}, Nat.ble (d + 1) 48 = true → d < (mkC 48 X w hX hG).n := fun h => Nat.le_of_ble_eq_true h
  refine W_r (fun τ => τ = ⟨asc [(0, .sl (b.map eB))], H0⟩) ⟨_, _, _, ch_val (s_assign (z rfl) (.const _)) <| ch_val (s_assign (z rfl) (.const _)) <| ch_nil, rfl, ⟨rfl, trivial⟩⟩ ?_
  rintro _ rfl
  refine W_seq ?_
  refine W_r (fun τ => τ = ⟨asc [(0, .sl (b.map eB)), (7, Bo (decide ((b.length : Int) < 6)))], H0⟩) ⟨_, _, _, ch_val (s_move (z rfl) (.tmp rfl)) <| ch_val (s_lenA (z rfl) (.tmp rfl) uBs) <| ch_val (s_cmp (z rfl) (.tmp rfl) kI ci_lt) <| ch_nil, rfl, ⟨rfl, rfl, trivial⟩⟩ ?_
  rintro _ rfl
  refine W_split (.tmp rfl) (fun c1 => ?_) (fun c1 => ?_)
  · have c1p := of_decide_eq_true c1
    refine W_r (fun τ => τ = ⟨asc [(2, nilS), (3, erA (.code 1))], H0⟩) ⟨_, _, _, ch_val (s_mkif (z rfl) kI cCode rfl) <| ch_val (s_assign (z rfl) (.const _)) <| ch_val (s_assign (z rfl) (.tmp rfl)) <| ch_nil, rfl, ⟨rfl, rfl, trivial⟩⟩ ?_
    rintro _ rfl
    refine W_ret (Fin.of (r' := [.sl [], erA (.code 1)]) (.nils (.pur (flat_er _).pur .nil)) rfl ?_)
    simp only [pOpen, c1]; rfl
  · have c1p := of_decide_eq_false c1
    refine W_skip ?_
    show W _ _ _ _ _
    have f2 := UInt8.toNat_lt (nth b 0)
    have f3 := UInt8.toNat_lt (nth b 1)
    refine W_d (fun τ => τ = ⟨asc [(0, .sl (b.map eB)), (4, I (((nth b 0).toNat : Int) * 256 + ((nth b 1).toNat : Int)))], H0⟩) mixed (by kernel_rfl) ⟨_, _, _, ch_val (s_move (z rfl) (.tmp rfl)) <| ch_val (s_indexA (nth_get b 0 (by first | omega | (simp <;> omega))) (z rfl) (.tmp rfl) kI uBs tU8 rfl rfl) <| ch_val (s_load_ip (z rfl) (.tmp rfl) tU8 rfl) <| ch_val (s_cnv (z rfl) (.tmp rfl) sU8 uI v_8_i) <| ch_val (s_shlI 8 (z rfl) (.tmp rfl) (.const _)) <| ch_val (s_move (z rfl) (.tmp rfl)) <| ch_val (s_indexA (nth_get b 1 (by first | omega | (simp <;> omega))) (z rfl) (.tmp rfl) kI uBs tU8 rfl rfl) <| ch_val (s_load_ip (z rfl) (.tmp rfl) tU8 rfl) <| ch_val (s_cnv (z rfl) (.tmp rfl) sU8 uI v_8_i) <| ch_val (s_ari (z rfl) (.tmp rfl) (.tmp rfl) ai_or8) <| ch_val (s_assign (z rfl) (.tmp rfl)) <| ch_nil, rfl, by kernel_rfl, ⟨rfl, rfl, trivial⟩⟩ ?_
    rintro _ rfl
    refine W_seq ?_
    refine W_r (fun τ => τ = ⟨asc [(0, .sl (b.map eB)), (4, I (((nth b 0).toNat : Int) * 256 + ((nth b 1).toNat : Int))), (27, Bo ((decide (4096 < (((nth b 0).toNat : Int) * 256 + ((nth b 1).toNat : Int)))) || (!decide ((b.length : Int) = ((((nth b 0).toNat : Int) * 256 + ((nth b 1).toNat : Int)) + 6)))))], H0⟩) ?_ ?_
    · skip
      rcases Bool.eq_false_or_eq_true (decide (4096 < (((nth b 0).toNat : Int) * 256 + ((nth b 1).toNat : Int)))) with g4 | g5
      · have g4p := of_decide_eq_true g4
        exact ⟨_, _, _, ch_val (s_move (z rfl) (.tmp rfl)) <| ch_val (s_cmp (z rfl) (.tmp rfl) kI ci_gt) <| ch_val (s_move (z rfl) (.tmp rfl)) <| ch_val (g_off (z rfl) rfl (z rfl) (congrArg Bo g4) rfl) <| ch_val (g_off (z rfl) rfl (z rfl) (congrArg Bo g4) rfl) <| ch_val (g_off (z rfl) rfl (z rfl) (congrArg Bo g4) rfl) <| ch_val (g_off (z rfl) rfl (z rfl) (congrArg Bo g4) rfl) <| ch_val (g_off (z rfl) rfl (z rfl) (congrArg Bo g4) rfl) <| ch_val (s_pickT (z rfl) (.tmp (congrArg Bo g4)) (.const _) (.tmp rfl)) <| ch_nil, rfl, ⟨rfl, rfl, (by show Bo true = Bo ((decide (4096 < (((nth b 0).toNat : Int) * 256 + ((nth b 1).toNat : Int)))) || (!decide ((b.length : Int) = ((((nth b 0).toNat : Int) * 256 + ((nth b 1).toNat : Int)) + 6)))); simp only [g4, Bool.true_and, Bool.and_true, Bool.true_or, Bool.or_true, Bool.false_and, Bool.and_false, Bool.false_or, Bool.or_false, Bool.not_true, Bool.not_false]), trivial⟩⟩
      · have g5p := of_decide_eq_false g5
        exact ⟨_, _, _, ch_val (s_move (z rfl) (.tmp rfl)) <| ch_val (s_cmp (z rfl) (.tmp rfl) kI ci_gt) <| ch_val (s_move (z rfl) (.tmp rfl)) <| ch_val (g_on rfl (z rfl) (congrArg Bo g5) (s_move (z rfl) (.tmp rfl))) <| ch_val (g_on rfl (z rfl) (congrArg Bo g5) (s_lenA (z rfl) (.tmp rfl) uBs)) <| ch_val (g_on rfl (z rfl) (congrArg Bo g5) (s_move (z rfl) (.tmp rfl))) <| ch_val (g_on rfl (z rfl) (congrArg Bo g5) (s_ari (z rfl) (.tmp rfl) kI (ai_add (by omega)))) <| ch_val (g_on rfl (z rfl) (congrArg Bo g5) (s_cmp (z rfl) (.tmp rfl) (.tmp rfl) ci_ne)) <| ch_val (s_pickF (z rfl) (.tmp (congrArg Bo g5)) (.const _) (.tmp rfl)) <| ch_nil, rfl, ⟨rfl, rfl, (by show Bo (!decide ((b.length : Int) = ((((nth b 0).toNat : Int) * 256 + ((nth b 1).toNat : Int)) + 6))) = Bo ((decide (4096 < (((nth b 0).toNat : Int) * 256 + ((nth b 1).toNat : Int)))) || (!decide ((b.length : Int) = ((((nth b 0).toNat : Int) * 256 + ((nth b 1).toNat : Int)) + 6)))); simp only [g5, Bool.true_and, Bool.and_true, Bool.true_or, Bool.or_true, Bool.false_and, Bool.and_false, Bool.false_or, Bool.or_false, Bool.not_true, Bool.not_false]), trivial⟩⟩
    rintro _ rfl
    refine W_split (.tmp rfl) (fun c6 => ?_) (fun c6 => ?_)
    · have c6p := c6; simp only [Bool.or_eq_true, Bool.and_eq_true, decide_eq_true_eq, Bool.or_eq_false_iff, Bool.and_eq_false_iff, decide_eq_false_iff_not, Bool.not_eq_true', Bool.not_eq_false', Bool.not_eq_eq_eq_not, Bool.not_true, Bool.not_false, Decidable.not_not] at c6p
      refine W_r (fun τ => τ = ⟨asc [(2, nilS), (3, erA (.code 1))], H0⟩) ⟨_, _, _, ch_val (s_mkif (z rfl) kI cCode rfl) <| ch_val (s_assign (z rfl) (.const _)) <| ch_val (s_assign (z rfl) (.tmp rfl)) <| ch_nil, rfl, ⟨rfl, rfl, trivial⟩⟩ ?_
      rintro _ rfl
      refine W_ret (Fin.of (r' := [.sl [], erA (.code 1)]) (.nils (.pur (flat_er _).pur .nil)) rfl ?_)
      simp only [pOpen, c1, c6]; rfl
    · have c6p := c6; simp only [Bool.or_eq_true, Bool.and_eq_true, decide_eq_true_eq, Bool.or_eq_false_iff, Bool.and_eq_false_iff, decide_eq_false_iff_not, Bool.not_eq_true', Bool.not_eq_false', Bool.not_eq_eq_eq_not, Bool.not_true, Bool.not_false, Decidable.not_not] at c6p
      refine W_skip ?_
      show W _ _ _ _ _
      refine W_seq ?_
      refine W_d (fun τ => ∃ (h7 : Heap), τ = ⟨asc [(0, .sl (b.map eB)), (4, I (((nth b 0).toNat : Int) * 256 + ((nth b 1).toNat : Int))), (41, Bo (!((pBig [] (crc (b.take (((((nth b 0).toNat : Int) * 256 + ((nth b 1).toNat : Int)) + 2).toNat)))) == (b.drop (((((nth b 0).toNat : Int) * 256 + ((nth b 1).toNat : Int)) + 2).toNat)))))], h7⟩) mixed (by kernel_rfl) ⟨_, _, _, ch_val (s_move (z rfl) (.tmp rfl)) <| ch_val (s_move (z rfl) (.tmp rfl)) <| ch_val (s_ari (z rfl) (.tmp rfl) kI (ai_add (by omega))) <| ch_val (s_cutT (u := ((((nth b 0).toNat : Int) * 256 + ((nth b 1).toNat : Int)) + 2).toNat) encB (z rfl) (.tmp rfl) (.some (n := ((((nth b 0).toNat : Int) * 256 + ((nth b 1).toNat : Int)) + 2).toNat) (.tmp rfl) (by omega)) uBs tU8 (by first | omega | (simp <;> omega))) <| ch_val (s_call (Ls := []) (z rfl) (.func _) (.cons (.tmp rfl) .nil) (.pur (encB.sl _) .nil) (C_wireSum (b.take (((((nth b 0).toNat : Int) * 256 + ((nth b 1).toNat : Int)) + 2).toNat)) (by first | omega | (simp <;> omega))) (Flat.c _).pur (.inr (Flat.c _))) <| ch_h (s_callNew (.loc 34) rfl (encB.purs _) (C_wireBigNil (crc (b.take (((((nth b 0).toNat : Int) * 256 + ((nth b 1).toNat : Int)) + 2).toNat)))) (z rfl) (.func _) (.cons (.const _) (.cons (.tmp rfl) .nil)) (.cons (.c _) (.cons (.c _) .nil))) <| ch_val (s_str (bs := pBig [] (crc (b.take (((((nth b 0).toNat : Int) * 256 + ((nth b 1).toNat : Int)) + 2).toNat)))) (z rfl) (.tmp rfl) (svOwn (.loc 34) _ (pBig [] (crc (b.take (((((nth b 0).toNat : Int) * 256 + ((nth b 1).toNat : Int)) + 2).toNat)))) rfl) uBs uU8 uStr) <| ch_val (s_move (z rfl) (.tmp rfl)) <| ch_val (s_move (z rfl) (.tmp rfl)) <| ch_val (s_ari (z rfl) (.tmp rfl) kI (ai_add (by omega))) <| ch_val (s_cutD (l := ((((nth b 0).toNat : Int) * 256 + ((nth b 1).toNat : Int)) + 2).toNat) encB (z rfl) (.tmp rfl) (.some (n := ((((nth b 0).toNat : Int) * 256 + ((nth b 1).toNat : Int)) + 2).toNat) (.tmp rfl) (by omega)) uBs tU8 (by first | omega | (simp <;> omega))) <| ch_val (s_str (bs := b.drop (((((nth b 0).toNat : Int) * 256 + ((nth b 1).toNat : Int)) + 2).toNat)) (z rfl) (.tmp rfl) (.sl _) uBs uU8 uStr) <| ch_val (s_eqstr (z rfl) (.tmp rfl) (.tmp rfl) rfl) <| ch_nil, ⟨_,  rfl⟩, by kernel_rfl, ⟨rfl, rfl, rfl, trivial⟩⟩ ?_
      rintro _ ⟨h7,  rfl⟩
      refine W_split (.tmp rfl) (fun c8 => ?_) (fun c8 => ?_)
      · have c8p := c8; simp only [Bool.or_eq_true, Bool.and_eq_true, decide_eq_true_eq, Bool.or_eq_false_iff, Bool.and_eq_false_iff, decide_eq_false_iff_not, Bool.not_eq_true', Bool.not_eq_false', Bool.not_eq_eq_eq_not, Bool.not_true, Bool.not_false, Decidable.not_not] at c8p
        refine W_r (fun τ => τ = ⟨asc [(2, nilS), (3, erA (.code 2))], h7⟩) ⟨_, _, _, ch_val (s_mkif (z rfl) kI cCode rfl) <| ch_val (s_assign (z rfl) (.const _)) <| ch_val (s_assign (z rfl) (.tmp rfl)) <| ch_nil, rfl, ⟨rfl, rfl, trivial⟩⟩ ?_
        rintro _ rfl
        refine W_ret (Fin.of (r' := [.sl [], erA (.code 2)]) (.nils (.pur (flat_er _).pur .nil)) rfl ?_)
        simp only [pOpen, c1, c6, c8]; rfl
      · have c8p := c8; simp only [Bool.or_eq_true, Bool.and_eq_true, decide_eq_true_eq, Bool.or_eq_false_iff, Bool.and_eq_false_iff, decide_eq_false_iff_not, Bool.not_eq_true', Bool.not_eq_false', Bool.not_eq_eq_eq_not, Bool.not_true, Bool.not_false, Decidable.not_not] at c8p
        refine W_skip ?_
        show W _ _ _ _ _
        refine W_r (fun τ => ∃ (h9 : Heap) (v10 : Nat), τ = ⟨asc [(2, .own (.loc 47) v10 ((b.take (((((nth b 0).toNat : Int) * 256 + ((nth b 1).toNat : Int)) + 2).toNat)).drop 2).length), (3, nilE)], h9⟩ ∧ h9 (.loc 47) = ⟨v10, true, 5, 1, ((b.take (((((nth b 0).toNat : Int) * 256 + ((nth b 1).toNat : Int)) + 2).toNat)).drop 2).map eB⟩) ⟨_, _, _, ch_val (s_move (z rfl) (.tmp rfl)) <| ch_val (s_move (z rfl) (.tmp rfl)) <| ch_val (s_ari (z rfl) (.tmp rfl) kI (ai_add (by omega))) <| ch_val (s_cutA (l := 2) (u := ((((nth b 0).toNat : Int) * 256 + ((nth b 1).toNat : Int)) + 2).toNat) encB (z rfl) (.tmp rfl) (.some (n := 2) kI rfl) (.some (n := ((((nth b 0).toNat : Int) * 256 + ((nth b 1).toNat : Int)) + 2).toNat) (.tmp rfl) (by omega)) uBs tU8 (by first | omega | (simp <;> omega)) (by first | omega | (simp <;> omega))) <| ch_h (s_appNil (.loc 47) ((b.take (((((nth b 0).toNat : Int) * 256 + ((nth b 1).toNat : Int)) + 2).toNat)).drop 2) rfl encB (z rfl) (.const _) (.tmp rfl) (.sl _) uBs tU8 (by simp <;> omega)) <| ch_val (s_assign (z rfl) (.tmp rfl)) <| ch_val (s_assign (z rfl) (.const _)) <| ch_nil, ⟨_, _,  rfl, rfl⟩, ⟨rfl, rfl, trivial⟩⟩ ?_
        rintro _ ⟨h9, v10,  rfl, hb11⟩
        refine W_ret (Fin.of (r' := [.sl (((b.take (((((nth b 0).toNat : Int) * 256 + ((nth b 1).toNat : Int)) + 2).toNat)).drop 2).map eB), nilE]) (.ownA encB (.loc 47) _ _ trivial hb11 (.pur (.c _) .nil)) rfl ?_)
        simp only [pOpen, c1, c6, c8]; rfl
theorem C_code (n : Nat) (hn : 0 < n) : Fn Tryd.prog 10 [erA (.code n)] (rOf [I (n : Int)]) := by
  refine Fn.intro (fn := Tryd.f10) (rs := [2]) (n := 14) (by kernel_rfl) (by kernel_rfl) rfl rfl rfl (Nat.le_of_ble_eq_true rfl) ?_
  intro X w hX hG
  have z : ∀ {d : Nat}, Nat.ble (d + 1) 14 = true → d < (mkC 14 X w hX hG).n := fun h => Nat.le_of_ble_eq_true h
  refine W_r (fun τ => τ = ⟨asc [(0, erA (.code n))], H0⟩) ⟨_, _, _, ch_val (s_assign (z rfl) kI) <| ch_nil, rfl, ⟨rfl, trivial⟩⟩ ?_
  rintro _ rfl
  refine W_seq ?_
  refine W_r (fun τ => τ = ⟨asc [(0, erA (.code n)), (5, Bo false)], H0⟩) ⟨_, _, _, ch_val (s_move (z rfl) (.tmp rfl)) <| ch_val (s_eqnil (z rfl) (.tmp rfl) rfl uErr rfl) <| ch_nil, rfl, ⟨rfl, rfl, trivial⟩⟩ ?_
  rintro _ rfl
  refine W_false (.tmp rfl) ?_
  refine W_skip ?_
  show W _ _ _ _ _
  refine W_r (fun τ => ∃ (h2 : Heap) (v3 : Nat), τ = ⟨asc [(0, erA (.code n)), (3, .ptr (.loc 3) v3 0 0)], h2⟩ ∧ h2 (.loc 3) = ⟨v3, true, 52, 1, [[I 0]]⟩) ⟨_, _, _, ch_h (s_alloc (z rfl) tCode rfl) <| ch_nil, ⟨_, _,  rfl, rfl⟩, ⟨rfl, rfl, trivial⟩⟩ ?_
  rintro _ ⟨h2, v3,  rfl, hb4⟩
  refine W_seq ?_
  refine W_r (fun τ => ∃ (h5 : Heap) (v6 : Nat), τ = ⟨asc [(3, .ptr (.loc 3) v6 0 0), (12, Bo (decide (0 < (n : Int))))], h5⟩ ∧ h5 (.loc 3) = ⟨v6, true, 52, 1, [[I (n : Int)]]⟩) ⟨_, _, _, ch_val (s_move (z rfl) (.tmp rfl)) <| ch_val (s_mkif (z rfl) (.tmp rfl) (by kernel_rfl) rfl) <| ch_h (s_callAs rfl (.loc 3) _ n _ hb4 (z rfl) (.cons (.tmp rfl) (.cons (.tmp rfl) .nil))) <| ch_val (s_move (z rfl) (.tmp rfl)) <| ch_val (g_on rfl (z rfl) rfl (s_loadP (.loc 3) _ rfl (z rfl) (.tmp rfl) rfl tCode rfl)) <| ch_val (g_on rfl (z rfl) rfl (s_cmp (z rfl) (.tmp rfl) kI ci_gt)) <| ch_val (s_pickT (z rfl) (.tmp rfl) (.tmp rfl) (.const _)) <| ch_nil, ⟨_, _,  rfl, rfl⟩, ⟨rfl, rfl, trivial⟩⟩ ?_
  rintro _ ⟨h5, v6,  rfl, hb7⟩
  refine W_split (.tmp rfl) (fun c8 => ?_) (fun c8 => ?_)
  · have c8p := of_decide_eq_true c8
    refine W_r (fun τ => τ = ⟨asc [(2, I (n : Int))], h5⟩) ⟨_, _, _, ch_val (s_loadP (.loc 3) _ hb7 (z rfl) (.tmp rfl) rfl tCode rfl) <| ch_val (s_assign (z rfl) (.tmp rfl)) <| ch_nil, rfl, ⟨rfl, trivial⟩⟩ ?_
    rintro _ rfl
    refine W_ret (Fin.of (r' := [I (n : Int)]) (.pur (.c _) .nil) rfl ?_)
    first | rfl | omega
  · have c8p := of_decide_eq_false c8
    refine W_skip ?_
    show W _ _ _ _ _
    refine W_r (fun τ => τ = ⟨asc [(2, I (-1))], h5⟩) ⟨_, _, _, ch_val (s_assign (z rfl) kI) <| ch_nil, rfl, ⟨rfl, trivial⟩⟩ ?_
    rintro _ rfl
    refine W_ret (Fin.of (r' := [I (-1)]) (.pur (.c _) .nil) rfl ?_)
    first | rfl | omega
theorem C_codeNo  : Fn Tryd.prog 10 [nilE] (rOf [I 0]) := by
  refine Fn.intro (fn := Tryd.f10) (rs := [2]) (n := 14) (by kernel_rfl) (by kernel_rfl) rfl rfl rfl (Nat.le_of_ble_eq_true rfl) ?_
  intro X w hX hG
  have z : ∀ {d : Nat}, Nat.ble (d + 1) 14 = true → d < (mkC 14 X w hX hG).n := fun h => Nat.le_of_ble_eq_true h
  refine W_r (fun τ => τ = ⟨asc [(0, nilE)], H0⟩) ⟨_, _, _, ch_val (s_assign (z rfl) kI) <| ch_nil, rfl, ⟨rfl, trivial⟩⟩ ?_
  rintro _ rfl
  refine W_seq ?_
  refine W_r (fun τ => τ = ⟨asc [(0, nilE), (5, Bo true)], H0⟩) ⟨_, _, _, ch_val (s_move (z rfl) (.tmp rfl)) <| ch_val (s_eqnil (z rfl) (.tmp rfl) rfl uErr rfl) <| ch_nil, rfl, ⟨rfl, rfl, trivial⟩⟩ ?_
  rintro _ rfl
  refine W_true (.tmp rfl) ?_
  refine W_r (fun τ => τ = ⟨asc [(2, I 0)], H0⟩) ⟨_, _, _, ch_val (s_assign (z rfl) kI) <| ch_nil, rfl, ⟨rfl, trivial⟩⟩ ?_
  rintro _ rfl
  refine W_ret (Fin.of (r' := [I 0]) (.pur (.c _) .nil) rfl ?_)
  rfl
theorem C_refSeal (b : List UInt8) (hb : b.length < 100000000000) : Fn Tryd.prog 12 [.sl (b.map eB)] (rOf [.sl ((refSeal b).map eB)]) := by
  refine Fn.intro (fn := Tryd.f12) (rs := [2]) (n := 21) (by kernel_rfl) (by kernel_rfl) rfl rfl rfl (Nat.le_of_ble_eq_true rfl) ?_
  intro X w hX hG
  have z : ∀ {d : Nat}, Nat.ble (d + 1) 21 = true → d < (mkC 21 X w hX hG).n := fun h => Nat.le_of_ble_eq_true h
  refine W_r (fun τ => τ = ⟨asc [(0, .sl (b.map eB))], H0⟩) ⟨_, _, _, ch_val (s_assign (z rfl) (.const _)) <| ch_nil, rfl, ⟨rfl, trivial⟩⟩ ?_
  rintro _ rfl
  refine W_r (fun τ => ∃ (h1 : Heap) (v2 : Nat), τ = ⟨asc [(0, .sl (b.map eB)), (3, .own (.loc 12) v2 ([UInt8.ofInt ((b.length : Int) / 256), UInt8.ofInt ((b.length : Int) % 256)]).length)], h1⟩ ∧ h1 (.loc 12) = ⟨v2, true, 5, 1, ([UInt8.ofInt ((b.length : Int) / 256), UInt8.ofInt ((b.length : Int) % 256)]).map eB⟩) ⟨_, _, _, ch_val (s_move (z rfl) (.tmp rfl)) <| ch_val (s_lenA (z rfl) (.tmp rfl) uBs) <| ch_val (s_ari (z rfl) (.tmp rfl) kI (ai_quo (by decide) (by omega) (by omega))) <| ch_val (s_cnv (z rfl) (.tmp rfl) sI uU8 v_i_8) <| ch_val (s_move (z rfl) (.tmp rfl)) <| ch_val (s_lenA (z rfl) (.tmp rfl) uBs) <| ch_val (s_ari (z rfl) (.tmp rfl) kI (ai_rem (by decide) (by omega))) <| ch_val (s_cnv (z rfl) (.tmp rfl) sI uU8 v_i_8) <| ch_h (s_bsA ([UInt8.ofInt ((b.length : Int) / 256), UInt8.ofInt ((b.length : Int) % 256)]) encB (z rfl) uBs tU8 (.cons (.tmp rfl) rfl (.cons (.tmp rfl) rfl (.nil _))) rfl (by decide) rfl) <| ch_val (s_assign (z rfl) (.tmp rfl)) <| ch_nil, ⟨_, _,  rfl, rfl⟩, ⟨rfl, rfl, trivial⟩⟩ ?_
  rintro _ ⟨h1, v2,  rfl, hb3⟩
  refine W_r (fun τ => ∃ (h4 : Heap) (v5 : Nat), τ = ⟨asc [(3, .own (.loc 12) v5 (([UInt8.ofInt ((b.length : Int) / 256), UInt8.ofInt ((b.length : Int) % 256)]) ++ b).length)], h4⟩ ∧ h4 (.loc 12) = ⟨v5, true, 5, 1, (([UInt8.ofInt ((b.length : Int) / 256), UInt8.ofInt ((b.length : Int) % 256)]) ++ b).map eB⟩) ⟨_, _, _, ch_val (s_move (z rfl) (.tmp rfl)) <| ch_val (s_move (z rfl) (.tmp rfl)) <| ch_h (s_appA (.loc 12) _ ([UInt8.ofInt ((b.length : Int) / 256), UInt8.ofInt ((b.length : Int) % 256)]) b hb3 encB (z rfl) (.tmp rfl) (.tmp rfl) (.sl _) uBs tU8 (by simp <;> omega)) <| ch_val (s_assign (z rfl) (.tmp rfl)) <| ch_nil, ⟨_, _,  rfl, rfl⟩, ⟨rfl, trivial⟩⟩ ?_
  rintro _ ⟨h4, v5,  rfl, hb6⟩
  refine W_r (fun τ => ∃ (h7 : Heap) (v8 : Nat), τ = ⟨asc [(2, .own (.loc 12) v8 ((([UInt8.ofInt ((b.length : Int) / 256), UInt8.ofInt ((b.length : Int) % 256)]) ++ b) ++ (refFour (refSum (([UInt8.ofInt ((b.length : Int) / 256), UInt8.ofInt ((b.length : Int) % 256)]) ++ b)))).length)], h7⟩ ∧ h7 (.loc 12) = ⟨v8, true, 5, 1, ((([UInt8.ofInt ((b.length : Int) / 256), UInt8.ofInt ((b.length : Int) % 256)]) ++ b) ++ (refFour (refSum (([UInt8.ofInt ((b.length : Int) / 256), UInt8.ofInt ((b.length : Int) % 256)]) ++ b)))).map eB⟩) ⟨_, _, _, ch_val (s_move (z rfl) (.tmp rfl)) <| ch_val (s_move (z rfl) (.tmp rfl)) <| ch_val (s_call (Ls := [(.loc 12)]) (z rfl) (.func _) (.cons (.tmp rfl) .nil) (.ownA encB (.loc 12) _ (([UInt8.ofInt ((b.length : Int) / 256), UInt8.ofInt ((b.length : Int) % 256)]) ++ b) (by simp) hb6 .nil) (C_refSum (([UInt8.ofInt ((b.length : Int) / 256), UInt8.ofInt ((b.length : Int) % 256)]) ++ b) (by first | omega | (simp <;> omega))) (Flat.c _).pur (.inr (Flat.c _))) <| ch_val (s_call (Ls := []) (z rfl) (.func _) (.cons (.tmp rfl) .nil) (.pur (.c _) .nil) (C_refFour (refSum (([UInt8.ofInt ((b.length : Int) / 256), UInt8.ofInt ((b.length : Int) % 256)]) ++ b))) (encB.sl _) (.inl rfl)) <| ch_h (s_appA (.loc 12) _ (([UInt8.ofInt ((b.length : Int) / 256), UInt8.ofInt ((b.length : Int) % 256)]) ++ b) (refFour (refSum (([UInt8.ofInt ((b.length : Int) / 256), UInt8.ofInt ((b.length : Int) % 256)]) ++ b))) hb6 encB (z rfl) (.tmp rfl) (.tmp rfl) (.sl _) uBs tU8 (by simp <;> omega)) <| ch_val (s_assign (z rfl) (.tmp rfl)) <| ch_nil, ⟨_, _,  rfl, rfl⟩, ⟨rfl, trivial⟩⟩ ?_
  rintro _ ⟨h7, v8,  rfl, hb9⟩
  refine W_ret (Fin.of (r' := [.sl (((([UInt8.ofInt ((b.length : Int) / 256), UInt8.ofInt ((b.length : Int) % 256)]) ++ b) ++ (refFour (refSum (([UInt8.ofInt ((b.length : Int) / 256), UInt8.ofInt ((b.length : Int) % 256)]) ++ b)))).map eB)]) (.ownA encB (.loc 12) _ _ trivial hb9 .nil) rfl ?_)
  rfl
theorem C_refSame (a b : List UInt8) : Fn Tryd.prog 11 [.sl (a.map eB), .sl (b.map eB)] (rOf [Bo (a == b)]) := by
  refine Fn.intro (fn := Tryd.f11) (rs := [4]) (n := 10) (by kernel_rfl) (by kernel_rfl) rfl rfl rfl (Nat.le_of_ble_eq_true rfl) ?_
  intro X w hX hG
  have z : ∀ {d : Nat}, Nat.ble (d + 1) 10 = true → d < (mkC 10 X w hX hG).n := fun h => Nat.le_of_ble_eq_true h
  refine W_r (fun τ => τ = ⟨asc [(0, .sl (a.map eB)), (1, .sl (b.map eB))], H0⟩) ⟨_, _, _, ch_val (s_assign (z rfl) (.const _)) <| ch_nil, rfl, ⟨rfl, rfl, trivial⟩⟩ ?_
  rintro _ rfl
  refine W_r (fun τ => τ = ⟨asc [(4, Bo (a == b))], H0⟩) ⟨_, _, _, ch_val (s_move (z rfl) (.tmp rfl)) <| ch_val (s_str (bs := a) (z rfl) (.tmp rfl) (.sl _) uBs uU8 uStr) <| ch_val (s_move (z rfl) (.tmp rfl)) <| ch_val (s_str (bs := b) (z rfl) (.tmp rfl) (.sl _) uBs uU8 uStr) <| ch_val (s_eqstr (z rfl) (.tmp rfl) (.tmp rfl) rfl) <| ch_val (s_assign (z rfl) (.tmp rfl)) <| ch_nil, rfl, ⟨rfl, trivial⟩⟩ ?_
  rintro _ rfl
  refine W_ret (Fin.of (r' := [Bo (a == b)]) (.pur (.c _) .nil) rfl ?_)
  rfl
theorem C_refOpen (b : List UInt8) (hb : b.length < 1000000000000) : Fn Tryd.prog 14 [.sl (b.map eB)] (rOf [.sl ((refOpen b).1.map eB), I ((refOpen b).2 : Int)]) := by
  refine Fn.intro (fn := Tryd.f14) (rs := [2, 3]) (n := 59) (by kernel_rfl) (by kernel_rfl) rfl rfl rfl (Nat.le_of_ble_eq_true rfl) ?_
  intro X w hX hG
  have z : ∀ {d : Nat}, Nat.ble (d + 1) 59 = true → d < (mkC 59 X w hX hG).n := fun h => Nat.le_of_ble_eq_true h
  refine W_r (fun τ => τ = ⟨asc [(0, .sl (b.map eB))], H0⟩) ⟨_, _, _, ch_val (s_assign (z rfl) (.const _)) <| ch_val (s_assign (z rfl) kI) <| ch_nil, rfl, ⟨rfl, trivial⟩⟩ ?_
  rintro _ rfl
  refine W_seq ?_
  have f5 := UInt8.toNat_lt (nth b 0)
  have f6 := UInt8.toNat_lt (nth b 1)
  refine W_d (fun τ => τ = ⟨asc [(0, .sl (b.map eB)), (30, Bo (((decide ((b.length : Int) < 6)) || (!decide (((((nth b 0).toNat : Int) * 256) + ((nth b 1).toNat : Int)) = ((b.length : Int) - 6)))) || (decide (4102 < (b.length : Int)))))], H0⟩) mixed (by kernel_rfl) ?_ ?_
  · skip
    rcases Bool.eq_false_or_eq_true (decide ((b.length : Int) < 6)) with g1 | g2
    · have g1p := of_decide_eq_true g1
      exact ⟨_, _, _, ch_val (s_move (z rfl) (.tmp rfl)) <| ch_val (s_lenA (z rfl) (.tmp rfl) uBs) <| ch_val (s_cmp (z rfl) (.tmp rfl) kI ci_lt) <| ch_val (s_move (z rfl) (.tmp rfl)) <| ch_val (g_off (z rfl) rfl (z rfl) (congrArg Bo g1) rfl) <| ch_val (g_off (z rfl) rfl (z rfl) (congrArg Bo g1) rfl) <| ch_val (g_off (z rfl) rfl (z rfl) (congrArg Bo g1) rfl) <| ch_val (g_off (z rfl) rfl (z rfl) (congrArg Bo g1) rfl) <| ch_val (g_off (z rfl) rfl (z rfl) (congrArg Bo g1) rfl) <| ch_val (g_off (z rfl) rfl (z rfl) (congrArg Bo g1) rfl) <| ch_val (g_off (z rfl) rfl (z rfl) (congrArg Bo g1) rfl) <| ch_val (g_off (z rfl) rfl (z rfl) (congrArg Bo g1) rfl) <| ch_val (g_off (z rfl) rfl (z rfl) (congrArg Bo g1) rfl) <| ch_val (g_off (z rfl) rfl (z rfl) (congrArg Bo g1) rfl) <| ch_val (g_off (z rfl) rfl (z rfl) (congrArg Bo g1) rfl) <| ch_val (g_off (z rfl) rfl (z rfl) (congrArg Bo g1) rfl) <| ch_val (g_off (z rfl) rfl (z rfl) (congrArg Bo g1) rfl) <| ch_val (g_off (z rfl) rfl (z rfl) (congrArg Bo g1) rfl) <| ch_val (s_pickT (z rfl) (.tmp (congrArg Bo g1)) (.const _) (.tmp rfl)) <| ch_val (s_move (z rfl) (.tmp rfl)) <| ch_val (g_off (z rfl) rfl (z rfl) rfl rfl) <| ch_val (g_off (z rfl) rfl (z rfl) rfl rfl) <| ch_val (g_off (z rfl) rfl (z rfl) rfl rfl) <| ch_val (s_pickT (z rfl) (.tmp rfl) (.const _) (.tmp rfl)) <| ch_nil, rfl, by kernel_rfl, ⟨rfl, (by show Bo true = Bo (((decide ((b.length : Int) < 6)) || (!decide (((((nth b 0).toNat : Int) * 256) + ((nth b 1).toNat : Int)) = ((b.length : Int) - 6)))) || (decide (4102 < (b.length : Int)))); simp only [g1, Bool.true_and, Bool.and_true, Bool.true_or, Bool.or_true, Bool.false_and, Bool.and_false, Bool.false_or, Bool.or_false, Bool.not_true, Bool.not_false]), trivial⟩⟩
    · have g2p := of_decide_eq_false g2
      rcases Bool.eq_false_or_eq_true (!decide (((((nth b 0).toNat : Int) * 256) + ((nth b 1).toNat : Int)) = ((b.length : Int) - 6))) with g3 | g4
      · have g3p := not_true_ g3
        exact ⟨_, _, _, ch_val (s_move (z rfl) (.tmp rfl)) <| ch_val (s_lenA (z rfl) (.tmp rfl) uBs) <| ch_val (s_cmp (z rfl) (.tmp rfl) kI ci_lt) <| ch_val (s_move (z rfl) (.tmp rfl)) <| ch_val (g_on rfl (z rfl) (congrArg Bo g2) (s_move (z rfl) (.tmp rfl))) <| ch_val (g_on rfl (z rfl) (congrArg Bo g2) (s_indexA (nth_get b 0 (by first | omega | (simp <;> omega))) (z rfl) (.tmp rfl) kI uBs tU8 rfl rfl)) <| ch_val (g_on rfl (z rfl) (congrArg Bo g2) (s_load_ip (z rfl) (.tmp rfl) tU8 rfl)) <| ch_val (g_on rfl (z rfl) (congrArg Bo g2) (s_cnv (z rfl) (.tmp rfl) sU8 uI v_8_i)) <| ch_val (g_on rfl (z rfl) (congrArg Bo g2) (s_ari (z rfl) (.tmp rfl) kI (ai_mul (by omega)))) <| ch_val (g_on rfl (z rfl) (congrArg Bo g2) (s_move (z rfl) (.tmp rfl))) <| ch_val (g_on rfl (z rfl) (congrArg Bo g2) (s_indexA (nth_get b 1 (by first | omega | (simp <;> omega))) (z rfl) (.tmp rfl) kI uBs tU8 rfl rfl)) <| ch_val (g_on rfl (z rfl) (congrArg Bo g2) (s_load_ip (z rfl) (.tmp rfl) tU8 rfl)) <| ch_val (g_on rfl (z rfl) (congrArg Bo g2) (s_cnv (z rfl) (.tmp rfl) sU8 uI v_8_i)) <| ch_val (g_on rfl (z rfl) (congrArg Bo g2) (s_ari (z rfl) (.tmp rfl) (.tmp rfl) (ai_add (by omega)))) <| ch_val (g_on rfl (z rfl) (congrArg Bo g2) (s_move (z rfl) (.tmp rfl))) <| ch_val (g_on rfl (z rfl) (congrArg Bo g2) (s_lenA (z rfl) (.tmp rfl) uBs)) <| ch_val (g_on rfl (z rfl) (congrArg Bo g2) (s_ari (z rfl) (.tmp rfl) kI (ai_sub (by omega)))) <| ch_val (g_on rfl (z rfl) (congrArg Bo g2) (s_cmp (z rfl) (.tmp rfl) (.tmp rfl) ci_ne)) <| ch_val (s_pickF (z rfl) (.tmp (congrArg Bo g2)) (.const _) (.tmp rfl)) <| ch_val (s_move (z rfl) (.tmp rfl)) <| ch_val (g_off (z rfl) rfl (z rfl) (congrArg Bo g3) rfl) <| ch_val (g_off (z rfl) rfl (z rfl) (congrArg Bo g3) rfl) <| ch_val (g_off (z rfl) rfl (z rfl) (congrArg Bo g3) rfl) <| ch_val (s_pickT (z rfl) (.tmp (congrArg Bo g3)) (.const _) (.tmp rfl)) <| ch_nil, rfl, by kernel_rfl, ⟨rfl, (by show Bo true = Bo (((decide ((b.length : Int) < 6)) || (!decide (((((nth b 0).toNat : Int) * 256) + ((nth b 1).toNat : Int)) = ((b.length : Int) - 6)))) || (decide (4102 < (b.length : Int)))); simp only [g2, g3, Bool.true_and, Bool.and_true, Bool.true_or, Bool.or_true, Bool.false_and, Bool.and_false, Bool.false_or, Bool.or_false, Bool.not_true, Bool.not_false]), trivial⟩⟩
      · have g4p := not_false_ g4
        exact ⟨_, _, _, ch_val (s_move (z rfl) (.tmp rfl)) <| ch_val (s_lenA (z rfl) (.tmp rfl) uBs) <| ch_val (s_cmp (z rfl) (.tmp rfl) kI ci_lt) <| ch_val (s_move (z rfl) (.tmp rfl)) <| ch_val (g_on rfl (z rfl) (congrArg Bo g2) (s_move (z rfl) (.tmp rfl))) <| ch_val (g_on rfl (z rfl) (congrArg Bo g2) (s_indexA (nth_get b 0 (by first | omega | (simp <;> omega))) (z rfl) (.tmp rfl) kI uBs tU8 rfl rfl)) <| ch_val (g_on rfl (z rfl) (congrArg Bo g2) (s_load_ip (z rfl) (.tmp rfl) tU8 rfl)) <| ch_val (g_on rfl (z rfl) (congrArg Bo g2) (s_cnv (z rfl) (.tmp rfl) sU8 uI v_8_i)) <| ch_val (g_on rfl (z rfl) (congrArg Bo g2) (s_ari (z rfl) (.tmp rfl) kI (ai_mul (by omega)))) <| ch_val (g_on rfl (z rfl) (congrArg Bo g2) (s_move (z rfl) (.tmp rfl))) <| ch_val (g_on rfl (z rfl) (congrArg Bo g2) (s_indexA (nth_get b 1 (by first | omega | (simp <;> omega))) (z rfl) (.tmp rfl) kI uBs tU8 rfl rfl)) <| ch_val (g_on rfl (z rfl) (congrArg Bo g2) (s_load_ip (z rfl) (.tmp rfl) tU8 rfl)) <| ch_val (g_on rfl (z rfl) (congrArg Bo g2) (s_cnv (z rfl) (.tmp rfl) sU8 uI v_8_i)) <| ch_val (g_on rfl (z rfl) (congrArg Bo g2) (s_ari (z rfl) (.tmp rfl) (.tmp rfl) (ai_add (by omega)))) <| ch_val (g_on rfl (z rfl) (congrArg Bo g2) (s_move (z rfl) (.tmp rfl))) <| ch_val (g_on rfl (z rfl) (congrArg Bo g2) (s_lenA (z rfl) (.tmp rfl) uBs)) <| ch_val (g_on rfl (z rfl) (congrArg Bo g2) (s_ari (z rfl) (.tmp rfl) kI (ai_sub (by omega)))) <| ch_val (g_on rfl (z rfl) (congrArg Bo g2) (s_cmp (z rfl) (.tmp rfl) (.tmp rfl) ci_ne)) <| ch_val (s_pickF (z rfl) (.tmp (congrArg Bo g2)) (.const _) (.tmp rfl)) <| ch_val (s_move (z rfl) (.tmp rfl)) <| ch_val (g_on rfl (z rfl) (congrArg Bo g4) (s_move (z rfl) (.tmp rfl))) <| ch_val (g_on rfl (z rfl) (congrArg Bo g4) (s_lenA (z rfl) (.tmp rfl) uBs)) <| ch_val (g_on rfl (z rfl) (congrArg Bo g4) (s_cmp (z rfl) (.tmp rfl) kI ci_gt)) <| ch_val (s_pickF (z rfl) (.tmp (congrArg Bo g4)) (.const _) (.tmp rfl)) <| ch_nil, rfl, by kernel_rfl, ⟨rfl, (by show Bo (decide (4102 < (b.length : Int))) = Bo (((decide ((b.length : Int) < 6)) || (!decide (((((nth b 0).toNat : Int) * 256) + ((nth b 1).toNat : Int)) = ((b.length : Int) - 6)))) || (decide (4102 < (b.length : Int)))); simp only [g2, g4, Bool.true_and, Bool.and_true, Bool.true_or, Bool.or_true, Bool.false_and, Bool.and_false, Bool.false_or, Bool.or_false, Bool.not_true, Bool.not_false]), trivial⟩⟩
  rintro _ rfl
  refine W_split (.tmp rfl) (fun c7 => ?_) (fun c7 => ?_)
  · have c7p := c7; simp only [Bool.or_eq_true, Bool.and_eq_true, decide_eq_true_eq, Bool.or_eq_false_iff, Bool.and_eq_false_iff, decide_eq_false_iff_not, Bool.not_eq_true', Bool.not_eq_false', Bool.not_eq_eq_eq_not, Bool.not_true, Bool.not_false, Decidable.not_not] at c7p
    refine W_r (fun τ => τ = ⟨asc [(2, nilS), (3, I 1)], H0⟩) ⟨_, _, _, ch_val (s_assign (z rfl) (.const _)) <| ch_val (s_assign (z rfl) kI) <| ch_nil, rfl, ⟨rfl, rfl, trivial⟩⟩ ?_
    rintro _ rfl
    refine W_ret (Fin.of (r' := [.sl [], I 1]) (.nils (.pur (.c _) .nil)) rfl ?_)
    simp only [refOpen, c7]; rfl
  · have c7p := c7; simp only [Bool.or_eq_true, Bool.and_eq_true, decide_eq_true_eq, Bool.or_eq_false_iff, Bool.and_eq_false_iff, decide_eq_false_iff_not, Bool.not_eq_true', Bool.not_eq_false', Bool.not_eq_eq_eq_not, Bool.not_true, Bool.not_false, Decidable.not_not] at c7p
    refine W_skip ?_
    show W _ _ _ _ _
    refine W_r (fun τ => τ = ⟨asc [(0, .sl (b.map eB)), (4, I ((b.length - 4 : Nat) : Int))], H0⟩) ⟨_, _, _, ch_val (s_move (z rfl) (.tmp rfl)) <| ch_val (s_lenA (z rfl) (.tmp rfl) uBs) <| ch_val (s_ari (z rfl) (.tmp rfl) kI (ai_sub (by omega))) <| ch_val (s_assign (z rfl) (.tmp rfl)) <| ch_nil, rfl, ⟨rfl, (congrArg I (show (b.length : Int) - 4 = ((b.length - 4 : Nat) : Int) by omega)), trivial⟩⟩ ?_
    rintro _ rfl
    refine W_r (fun τ => τ = ⟨asc [(0, .sl (b.map eB)), (4, I ((b.length - 4 : Nat) : Int)), (5, .sl ((refFour (refSum (b.take (b.length - 4)))).map eB))], H0⟩) ⟨_, _, _, ch_val (s_move (z rfl) (.tmp rfl)) <| ch_val (s_move (z rfl) (.tmp rfl)) <| ch_val (s_cutT (u := b.length - 4) encB (z rfl) (.tmp rfl) (.some (n := b.length - 4) (.tmp rfl) rfl) uBs tU8 (by first | omega | (simp <;> omega))) <| ch_val (s_call (Ls := []) (z rfl) (.func _) (.cons (.tmp rfl) .nil) (.pur (encB.sl _) .nil) (C_refSum (b.take (b.length - 4)) (by first | omega | (simp <;> omega))) (Flat.c _).pur (.inr (Flat.c _))) <| ch_val (s_call (Ls := []) (z rfl) (.func _) (.cons (.tmp rfl) .nil) (.pur (.c _) .nil) (C_refFour (refSum (b.take (b.length - 4)))) (encB.sl _) (.inl rfl)) <| ch_val (s_assign (z rfl) (.tmp rfl)) <| ch_nil, rfl, ⟨rfl, rfl, rfl, trivial⟩⟩ ?_
    rintro _ rfl
    refine W_seq ?_
    refine W_r (fun τ => τ = ⟨asc [(0, .sl (b.map eB)), (4, I ((b.length - 4 : Nat) : Int)), (5, .sl ((refFour (refSum (b.take (b.length - 4)))).map eB)), (6, I 0)], H0⟩) ⟨_, _, _, ch_val (s_assign (z rfl) kI) <| ch_nil, rfl, ⟨rfl, rfl, rfl, rfl, trivial⟩⟩ ?_
    rintro _ rfl
    refine W_block ?_
    refine W_loop (fun n τ => ∃ (i : Nat), (i ≤ 4 ∧ ∀ j, j < i → nth b (b.length - 4 + j) = nth (refFour (refSum (b.take (b.length - 4)))) j) ∧ n = 4 - i ∧ τ = ⟨asc [(0, .sl (b.map eB)), (4, I ((b.length - 4 : Nat) : Int)), (5, .sl ((refFour (refSum (b.take (b.length - 4)))).map eB)), (6, I (i : Int))], H0⟩) _ ⟨0, ⟨by omega, fun j h => absurd h (Nat.not_lt_zero j)⟩, rfl, rfl⟩ ?_
    rintro n _ ⟨i, ⟨hi, hall⟩, rfl, rfl⟩
    refine W_seq ?_
    refine W_r (fun τ => τ = ⟨asc [(0, .sl (b.map eB)), (4, I ((b.length - 4 : Nat) : Int)), (5, .sl ((refFour (refSum (b.take (b.length - 4)))).map eB)), (6, I (i : Int)), (40, Bo (decide ((i : Int) < 4)))], H0⟩) ⟨_, _, _, ch_val (s_move (z rfl) (.tmp rfl)) <| ch_val (s_cmp (z rfl) (.tmp rfl) kI ci_lt) <| ch_nil, rfl, ⟨rfl, rfl, rfl, rfl, rfl, trivial⟩⟩ ?_
    rintro _ rfl
    refine W_split (.tmp rfl) (fun c8 => ?_) (fun c8 => ?_)
    · have c8p := of_decide_eq_true c8
      refine W_skip ?_
      show W _ _ _ _ _
      refine W_seq ?_
      refine W_block ?_
      refine W_d (fun τ => τ = ⟨asc [(0, .sl (b.map eB)), (4, I ((b.length - 4 : Nat) : Int)), (5, .sl ((refFour (refSum (b.take (b.length - 4)))).map eB)), (6, I (i : Int)), (53, Bo (!decide ((nth b (b.length - 4 + i)) = (nth (refFour (refSum (b.take (b.length - 4)))) i))))], H0⟩) mixed (by kernel_rfl) ⟨_, _, _, ch_val (s_move (z rfl) (.tmp rfl)) <| ch_val (s_move (z rfl) (.tmp rfl)) <| ch_val (s_move (z rfl) (.tmp rfl)) <| ch_val (s_ari (z rfl) (.tmp rfl) (.tmp rfl) (ai_add (by omega))) <| ch_val (s_indexA (nth_get b (b.length - 4 + i) (by first | omega | (simp <;> omega))) (z rfl) (.tmp rfl) (.tmp rfl) uBs tU8 (by omega) rfl) <| ch_val (s_load_ip (z rfl) (.tmp rfl) tU8 rfl) <| ch_val (s_move (z rfl) (.tmp rfl)) <| ch_val (s_move (z rfl) (.tmp rfl)) <| ch_val (s_indexA (nth_get (refFour (refSum (b.take (b.length - 4)))) i (by first | omega | (simp <;> omega))) (z rfl) (.tmp rfl) (.tmp rfl) uBs tU8 rfl rfl) <| ch_val (s_load_ip (z rfl) (.tmp rfl) tU8 rfl) <| ch_val (s_cmp (z rfl) (.tmp rfl) (.tmp rfl) c8_ne) <| ch_nil, rfl, by kernel_rfl, ⟨rfl, rfl, rfl, rfl, rfl, trivial⟩⟩ ?_
      rintro _ rfl
      refine W_split (.tmp rfl) (fun c9 => ?_) (fun c9 => ?_)
      · have c9p := not_true_ c9
        refine W_r (fun τ => τ = ⟨asc [(2, nilS), (3, I 2)], H0⟩) ⟨_, _, _, ch_val (s_assign (z rfl) (.const _)) <| ch_val (s_assign (z rfl) kI) <| ch_nil, rfl, ⟨rfl, rfl, trivial⟩⟩ ?_
        rintro _ rfl
        refine W_ret (Fin.of (r' := [.sl [], I 2]) (.nils (.pur (.c _) .nil)) rfl ?_)
        simp only [refOpen, c7, c8, c9]
        rw [if_neg (by decide), if_neg (not_drop_four (by omega) rfl (j := i) (by omega) c9p)]; rfl
      · have c9p := not_false_ c9
        refine W_skip ?_
        show W _ _ _ _ _
        refine W_r1 (fun τ => τ = ⟨asc [(0, .sl (b.map eB)), (4, I ((b.length - 4 : Nat) : Int)), (5, .sl ((refFour (refSum (b.take (b.length - 4)))).map eB)), (6, I ((i : Int) + 1))], H0⟩) ⟨_, _, _, ch_val (s_move (z rfl) (.tmp rfl)) <| ch_val (s_ari (z rfl) (.tmp rfl) kI (ai_add (by omega))) <| ch_val (s_assign (z rfl) (.tmp rfl)) <| ch_nil, rfl, ⟨rfl, rfl, rfl, rfl, trivial⟩⟩ ?_
        rintro _ rfl
        exact ⟨_, (by omega : 4 - (i + 1) < 4 - i), i + 1, ⟨by omega, fun j hj => by rcases Nat.lt_succ_iff_lt_or_eq.1 hj with h | h; exact hall j h; subst h; exact c9p⟩, rfl, rfl⟩
    · have c8p := of_decide_eq_false c8
      refine W_exit ?_
      show W _ _ _ _ _
      refine W_r (fun τ => ∃ (h10 : Heap) (v11 : Nat), τ = ⟨asc [(2, .own (.loc 54) v11 (([] : List UInt8) ++ ((b.take (b.length - 4)).drop 2)).length), (3, I 0)], h10⟩ ∧ h10 (.loc 54) = ⟨v11, true, 5, 1, (([] : List UInt8) ++ ((b.take (b.length - 4)).drop 2)).map eB⟩) ⟨_, _, _, ch_h (s_bsA ([] : List UInt8) encB (z rfl) uBs tU8 (.nil _) rfl (by decide) rfl) <| ch_val (s_move (z rfl) (.tmp rfl)) <| ch_val (s_move (z rfl) (.tmp rfl)) <| ch_val (s_cutA (l := 2) (u := b.length - 4) encB (z rfl) (.tmp rfl) (.some (n := 2) kI rfl) (.some (n := b.length - 4) (.tmp rfl) rfl) uBs tU8 (by first | omega | (simp <;> omega)) (by first | omega | (simp <;> omega))) <| ch_h (s_appA (.loc 54) _ ([] : List UInt8) ((b.take (b.length - 4)).drop 2) rfl encB (z rfl) (.tmp rfl) (.tmp rfl) (.sl _) uBs tU8 (by simp <;> omega)) <| ch_val (s_assign (z rfl) (.tmp rfl)) <| ch_val (s_assign (z rfl) kI) <| ch_nil, ⟨_, _,  rfl, rfl⟩, ⟨rfl, rfl, trivial⟩⟩ ?_
      rintro _ ⟨h10, v11,  rfl, hb12⟩
      refine W_ret (Fin.of (r' := [.sl ((([] : List UInt8) ++ ((b.take (b.length - 4)).drop 2)).map eB), I 0]) (.ownA encB (.loc 54) _ _ trivial hb12 (.pur (.c _) .nil)) rfl ?_)
      obtain rfl : i = 4 := by omega
      simp only [refOpen, c7, c8]
      rw [if_neg (by decide), if_pos (drop_four (by omega) rfl hall)]; rfl
end Go.Proofs.YtpbjbnghcbcdiaaDoor.AM
