/- Lists of instructions in bytes, and back: what is made, in plain words. -/
import Derived.Test.YtiljkmcahkphiaaRr9
import Derived.Test.YtiljkmcahkphiaaSxc
namespace Go.Proofs.Ytiljkmcahkphiaa.Rv
open Go Go.Proofs.Ytiljkmcahkphiaa.Sx Go.RowKit
set_option linter.unusedVariables false
set_option linter.unusedSimpArgs false

def colI : Col → Nat → Int
  | .int _ g, e => (g e).den
  | _, _ => 0
def encC (cs : List Col) (i : Nat) : Int × Int := rvEnc (colI (cs.getD 0 .dark) i) (colI (cs.getD 1 .dark) i) (colI (cs.getD 2 .dark) i) (colI (cs.getD 3 .dark) i) (colI (cs.getD 4 .dark) i)
def byteI (w : Int) (j : Nat) : Int := w / 2 ^ (8 * j) % 256
def bytesF (cs : List Col) (e : Nat) : Int := byteI (encC cs (e / 4)).1 (e % 4)
def byteC (cs : List Col) (e : Nat) : Int := colI (cs.getD 0 .dark) e
def wordB (b : Nat → Int) (e : Nat) : Int := b e + b (e + 1) * 256 + b (e + 2) * 65536 + b (e + 3) * 16777216
def decC (cs : List Col) (i : Nat) : RvIns := rvDec (wordB (byteC cs) (4 * i))

theorem byteI_at {a b c d : Int} (ha : 0 ≤ a ∧ a < 256) (hb : 0 ≤ b ∧ b < 256) (hc : 0 ≤ c ∧ c < 256) (hd : 0 ≤ d ∧ d < 256) :
    byteI (a + b * 256 + c * 65536 + d * 16777216) 0 = a ∧ byteI (a + b * 256 + c * 65536 + d * 16777216) 1 = b ∧ byteI (a + b * 256 + c * 65536 + d * 16777216) 2 = c ∧ byteI (a + b * 256 + c * 65536 + d * 16777216) 3 = d := by
  simp only [byteI]
  refine ⟨?_, ?_, ?_, ?_⟩ <;> simp <;> omega
theorem word_bytes {w : Int} (h0 : 0 ≤ w) (h1 : w < 4294967296) : byteI w 0 + byteI w 1 * 256 + byteI w 2 * 65536 + byteI w 3 * 16777216 = w := by
  simp only [byteI]
  simp
  omega
theorem byteI_range (w : Int) (j : Nat) : 0 ≤ byteI w j ∧ byteI w j < 256 := by
  unfold byteI
  generalize w / 2 ^ (8 * j) = x
  omega
theorem wordB_range {b : Nat → Int} {e : Nat} (h : ∀ j, j < 4 → 0 ≤ b (e + j) ∧ b (e + j) < 256) : 0 ≤ wordB b e ∧ wordB b e < 4294967296 := by
  have h0 := h 0 (by omega)
  have h1 := h 1 (by omega)
  have h2 := h 2 (by omega)
  have h3 := h 3 (by omega)
  simp only [Nat.add_zero] at h0
  unfold wordB
  omega
theorem enc_range {op a b c d w : Int} (h : rvEnc op a b c d = (w, 0)) : 0 ≤ w ∧ w < 4294967296 ∧ rvDec w = ⟨op, a, b, c, d, 0⟩ := by
  obtain ⟨r, hr, ho, hk, hw⟩ := enc_ok h
  have h1 := word_range r hr a b c d hk
  have h2 := dec_enc r hr a b c d hk
  subst hw
  exact ⟨h1.1, h1.2.1, by rw [h2, ho]⟩
theorem wordB_bytes {cs : List Col} {i : Nat} (h : (encC cs i).2 = 0) : wordB (bytesF cs) (4 * i) = (encC cs i).1 := by
  have h' : rvEnc (colI (cs.getD 0 .dark) i) (colI (cs.getD 1 .dark) i) (colI (cs.getD 2 .dark) i) (colI (cs.getD 3 .dark) i) (colI (cs.getD 4 .dark) i) = ((encC cs i).1, 0) := by
    rw [← h]; rfl
  obtain ⟨h0, h1, _⟩ := enc_range h'
  have e : ∀ j, j < 4 → bytesF cs (4 * i + j) = byteI (encC cs i).1 j := fun j hj => by
    unfold bytesF
    rw [show (4 * i + j) / 4 = i by omega, show (4 * i + j) % 4 = j by omega]
  unfold wordB
  rw [show bytesF cs (4 * i) = byteI (encC cs i).1 0 from e 0 (by omega), e 1 (by omega), e 2 (by omega), e 3 (by omega)]
  exact word_bytes h0 h1
theorem dec_bytes {cs : List Col} {i : Nat} (h : (encC cs i).2 = 0) : rvDec (wordB (bytesF cs) (4 * i)) = ⟨colI (cs.getD 0 .dark) i, colI (cs.getD 1 .dark) i, colI (cs.getD 2 .dark) i, colI (cs.getD 3 .dark) i, colI (cs.getD 4 .dark) i, 0⟩ := by
  rw [wordB_bytes h]
  exact (enc_range (w := (encC cs i).1) (by rw [← h]; rfl)).2.2
theorem bytes_dec {b : Nat → Int} {i : Nat} (hb : ∀ j, j < 4 → 0 ≤ b (4 * i + j) ∧ b (4 * i + j) < 256) (he : (rvDec (wordB b (4 * i))).err = 0) :
    rvEnc (rvDec (wordB b (4 * i))).op (rvDec (wordB b (4 * i))).rd (rvDec (wordB b (4 * i))).r1 (rvDec (wordB b (4 * i))).r2 (rvDec (wordB b (4 * i))).imm = (wordB b (4 * i), 0) := by
  obtain ⟨h0, h1⟩ := wordB_range hb
  exact enc_dec _ h0 h1 he
theorem byte_word {b : Nat → Int} {i : Nat} (hb : ∀ j, j < 4 → 0 ≤ b (4 * i + j) ∧ b (4 * i + j) < 256) (j : Nat) (hj : j < 4) : byteI (wordB b (4 * i)) j = b (4 * i + j) := by
  have := byteI_at (hb 0 (by omega)) (hb 1 (by omega)) (hb 2 (by omega)) (hb 3 (by omega))
  unfold wordB
  simp only [Nat.add_zero] at this
  match j, hj with
  | 0, _ => exact this.1
  | 1, _ => exact this.2.1
  | 2, _ => exact this.2.2.1
  | 3, _ => exact this.2.2.2

/-! What the two functions come to. -/
def insCols (f : Nat → RvIns) : List Col := [.int .i64 fun e => .var (f e).op, .int .i64 fun e => .var (f e).rd, .int .i64 fun e => .var (f e).r1, .int .i64 fun e => .var (f e).r2, .int .i64 fun e => .var (f e).imm]
def byteCol (f : Nat → Int) : List Col := [.int .u8 fun e => .var (f e)]
/-- Bytes: all of them, or the first that may not be. -/
def bOuts : Ins → List SV → List Out
  | [(cs, len, _)], _ =>
    [.any (Nat × (Nat → Int)) (fun c => 4 * len ≤ c.1 ∧ c.1 ≤ 9223372036854775807 ∧ (∀ i, i < len → (encC cs i).2 = 0) ∧ ∀ e, e < 4 * len → c.2 e = bytesF cs e) (fun c n => .tuple [.sliceE true n 1 (.lit 0) (.var (4 * len)) (.var c.1), .int .i64 (.lit 0), .int .i64 (.lit 0)]) (fun c => [.row true true (byteCol c.2) (.var c.1)]) (fun _ => []),
     .any Nat (fun i => i < len ∧ (encC cs i).2 ≠ 0 ∧ ∀ j, j < i → (encC cs j).2 = 0) (fun i _ => .tuple [.nils, .int .i64 (.var (encC cs i).2), .int .i64 (.var i)]) (fun _ => []) (fun _ => [])]
  | _, _ => []
def readErr (cs : List Col) (len i : Nat) : Int := if 4 * i + 4 ≤ len then (decC cs i).err else 5
/-- Read: all of them, or the first that may not be. -/
def rOuts : Ins → List SV → List Out
  | [(cs, len, _)], _ =>
    [.any (Nat × (Nat → RvIns)) (fun c => len / 4 ≤ c.1 ∧ c.1 ≤ 9223372036854775807 ∧ len % 4 = 0 ∧ ∀ i, i < len / 4 → (decC cs i).err = 0 ∧ c.2 i = decC cs i) (fun c n => .tuple [.sliceE true n 5 (.lit 0) (.var (len / 4)) (.var c.1), .int .i64 (.lit 0), .int .i64 (.lit 0)]) (fun c => [.row true true (insCols c.2) (.var c.1)]) (fun _ => []),
     .any Nat (fun i => 4 * i < len ∧ readErr cs len i ≠ 0 ∧ ∀ j, j < i → 4 * j + 4 ≤ len ∧ (decC cs j).err = 0) (fun i _ => .tuple [.nils, .int .i64 (.var (readErr cs len i)), .int .i64 (.var (4 * i : Nat))]) (fun _ => []) (fun _ => [])]
  | _, _ => []
def bPre : Ins → List SV → Prop
  | [(cs, len, cap)], pl => pl = [] ∧ len ≤ cap ∧ len ≤ 2097152 ∧ (∃ g : Nat → Nat → Int, cs = [.int .i64 fun e => .var (g e 0), .int .i64 fun e => .var (g e 1), .int .i64 fun e => .var (g e 2), .int .i64 fun e => .var (g e 3), .int .i64 fun e => .var (g e 4)]) ∧ ∀ i, i < len → inI64 (colI (cs.getD 4 .dark) i) = true
  | _, _ => False
def rPre : Ins → List SV → Prop
  | [(cs, len, cap)], pl => pl = [] ∧ len ≤ cap ∧ len ≤ 8388608 ∧ (∃ g : Nat → Int, cs = [.int .u8 fun e => .var (g e)]) ∧ ∀ i, i < len → 0 ≤ byteC cs i ∧ byteC cs i < 256
  | _, _ => False
end Go.Proofs.Ytiljkmcahkphiaa.Rv
