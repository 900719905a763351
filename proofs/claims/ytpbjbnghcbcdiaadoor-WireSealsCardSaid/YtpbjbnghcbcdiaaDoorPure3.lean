/- What the frames' code computes, in plain Lean. Conditions: none. -/
import Derived.Test.YtpbjbnghcbcdiaaDoorAm16
import Derived.Test.YtpbjbnghcbcdiaaDoorAsAm
namespace Go.Proofs.YtpbjbnghcbcdiaaDoor.AM
open Go

def nth {α : Type} [Inhabited α] (xs : List α) (i : Nat) : α := xs.getD i default
theorem nth_get {α : Type} [Inhabited α] (xs : List α) (i : Nat) (h : i < xs.length) : xs[i]? = some (nth xs i) := by simp [nth, h]
theorem not_true_ {p : Prop} [Decidable p] (h : (!decide p) = true) : ¬ p := by simpa using h
theorem not_false_ {p : Prop} [Decidable p] (h : (!decide p) = false) : p := by simpa using h

def crcBit (w : UInt32) : UInt32 := (w >>> 1) ^^^ (3988292384 * (w &&& 1))
def crcBits : Nat → UInt32 → UInt32
  | 0, w => w
  | n + 1, w => crcBit (crcBits n w)
def crcByte (w : UInt32) (b : UInt8) : UInt32 := crcBits 8 (w ^^^ b.toUInt32)
def crcFold (bs : List UInt8) : UInt32 := bs.foldl crcByte 4294967295
def crc (bs : List UInt8) : UInt32 := crcFold bs ^^^ 4294967295
theorem crcFold_step {bs : List UInt8} {i : Nat} (h : i < bs.length) : crcFold (bs.take (i + 1)) = crcByte (crcFold (bs.take i)) (nth bs i) := by
  rw [List.take_add_one, nth_get bs i h]
  simp [crcFold, List.foldl_append]

/-- the document's: bit by bit -/
def refBit (s : UInt32 × UInt8) : UInt32 × UInt8 := (if !decide (s.1 % 2 = (s.2 % 2).toUInt32) then s.1 / 2 ^^^ 3988292384 else s.1 / 2, s.2 / 2)
def refBits : Nat → UInt32 × UInt8 → UInt32 × UInt8
  | 0, s => s
  | n + 1, s => refBit (refBits n s)
def refByte (w : UInt32) (b : UInt8) : UInt32 := (refBits 8 (w, b)).1
def refFold (bs : List UInt8) : UInt32 := bs.foldl refByte 4294967295
def refSum (bs : List UInt8) : UInt32 := refFold bs ^^^ 4294967295
theorem refFold_step {bs : List UInt8} {i : Nat} (h : i < bs.length) : refFold (bs.take (i + 1)) = refByte (refFold (bs.take i)) (nth bs i) := by
  rw [List.take_add_one, nth_get bs i h]
  simp [refFold, List.foldl_append]
def pBig (b : List UInt8) (n : UInt32) : List UInt8 := b ++ [(n >>> 24).toUInt8, (n >>> 16).toUInt8, (n >>> 8).toUInt8, n.toUInt8]
def refFour (w : UInt32) : List UInt8 := [(w / 16777216).toUInt8, (w / 65536 % 256).toUInt8, (w / 256 % 256).toUInt8, (w % 256).toUInt8]
@[simp] theorem refFour_length (w : UInt32) : (refFour w).length = 4 := rfl
@[simp] theorem pBig_length (b : List UInt8) (n : UInt32) : (pBig b n).length = b.length + 4 := by simp [pBig]
def pSeal (b : List UInt8) : List UInt8 × Er :=
  if decide (4096 < (b.length : Int)) then ([], .code 5) else
    (pBig ([UInt8.ofInt ((b.length : Int) / 256), UInt8.ofInt (b.length : Int)] ++ b) (crc ([UInt8.ofInt ((b.length : Int) / 256), UInt8.ofInt (b.length : Int)] ++ b)), .no)
def pOpen (f : List UInt8) : List UInt8 × Er :=
  if decide ((f.length : Int) < 6) then ([], .code 1) else
    if decide (4096 < ((nth f 0).toNat : Int) * 256 + ((nth f 1).toNat : Int)) || !decide ((f.length : Int) = (((nth f 0).toNat : Int) * 256 + ((nth f 1).toNat : Int)) + 6) then ([], .code 1) else
    if !(pBig [] (crc (f.take ((((nth f 0).toNat : Int) * 256 + ((nth f 1).toNat : Int)) + 2).toNat)) == f.drop ((((nth f 0).toNat : Int) * 256 + ((nth f 1).toNat : Int)) + 2).toNat) then ([], .code 2) else ((f.take ((((nth f 0).toNat : Int) * 256 + ((nth f 1).toNat : Int)) + 2).toNat).drop 2, .no)
def refOpen (f : List UInt8) : List UInt8 × Nat :=
  if (decide ((f.length : Int) < 6) || !decide (((nth f 0).toNat : Int) * 256 + ((nth f 1).toNat : Int) = (f.length : Int) - 6)) || decide (4102 < (f.length : Int)) then ([], 1) else
    if f.drop (f.length - 4) = refFour (refSum (f.take (f.length - 4))) then ((f.take (f.length - 4)).drop 2, 0) else ([], 2)
theorem drop_four {f s : List UInt8} (h1 : 6 ≤ f.length) (h2 : s.length = 4) (h : ∀ j, j < 4 → nth f (f.length - 4 + j) = nth s j) : f.drop (f.length - 4) = s := by
  apply List.ext_getElem
  · simp; omega
  · intro i h3 h4
    have := h i (by omega)
    simp only [nth, List.getD_eq_getElem?_getD] at this
    rw [List.getElem?_eq_getElem (by omega), List.getElem?_eq_getElem h4] at this
    simpa using this
theorem not_drop_four {f s : List UInt8} (h1 : 6 ≤ f.length) (h2 : s.length = 4) {j : Nat} (hj : j < 4) (h : nth f (f.length - 4 + j) ≠ nth s j) : f.drop (f.length - 4) ≠ s := by
  intro e
  apply h
  rw [← e]
  simp [nth]
def refSeal (b : List UInt8) : List UInt8 :=
  [UInt8.ofInt ((b.length : Int) / 256), UInt8.ofInt ((b.length : Int) % 256)] ++ b ++ refFour (refSum ([UInt8.ofInt ((b.length : Int) / 256), UInt8.ofInt ((b.length : Int) % 256)] ++ b))
end Go.Proofs.YtpbjbnghcbcdiaaDoor.AM
