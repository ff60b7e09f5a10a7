/- What the reader's place in memory is. -/
import Derived.Test.YtajcmjjgnbaahaaGreatAd1
import Derived.Test.YtajcmjjgnbaahaaGreatAp3
set_option linter.unusedVariables false
set_option linter.unusedSimpArgs false
namespace Go.Proofs.YtajcmjjgnbaahaaGreat.Amd
open Go Go.Proofs.YtajcmjjgnbaahaaGreat.Sx Go.RowKit
theorem zQu (g : Nat -> Int) (len cap : Nat) (a p : Int) (b : Bool) (long : Bool) (v' a' : Int) (b' : Bool) : zH P R1 (fun _ => 40) Tryz.f95 [.ptr 1 0, .bool (.var long)] [rdRow g cap, zAu len cap a p b] (zKX g len cap p (.int .i64 (.var v')) a' b') =
  (BE.den (.ite (.var (decide (0 + cap <= cap))) (.var (decide (len <= cap))) (.lit false)) = true /\ ((∃ (g_1 : Nat -> Int), List.map Col.nrm (zY (NE.lit 0) [col8 g]) = [Col.int .u8 fun e => IE.var (g_1 e)]) /\ zAD (g) len cap a p /\ True) /\ (BE.den (.not (.var long)) = true -> IE.den (.conv .i64 (.conv .i8 (.conv .u32 (.var (nxV (g) len a))))) = v' /\ len = len /\ cap = cap /\ nxA len a = a' /\ p = p /\ nxB len a b = b' /\ cap = cap /\ (∀ (e : Nat), e < cap -> g e = g e) /\ True) /\ (BE.den (.not (.var long)) = false -> BE.den (.ite (.var (decide (0 + cap <= cap))) (.var (decide (len <= cap))) (.lit false)) = true /\ ((∃ (g_1 : Nat -> Int), List.map Col.nrm (zY (NE.lit 0) [col8 g]) = [Col.int .u8 fun e => IE.var (g_1 e)]) /\ zAD (g) len cap (nxA len a) p /\ True) /\ BE.den (.ite (.var (decide (0 + cap <= cap))) (.var (decide (len <= cap))) (.lit false)) = true /\ ((∃ (g_1 : Nat -> Int), List.map Col.nrm (zY (NE.lit 0) [col8 g]) = [Col.int .u8 fun e => IE.var (g_1 e)]) /\ zAD (g) len cap (nxA len (nxA len a)) p /\ True) /\ BE.den (.ite (.var (decide (0 + cap <= cap))) (.var (decide (len <= cap))) (.lit false)) = true /\ ((∃ (g_1 : Nat -> Int), List.map Col.nrm (zY (NE.lit 0) [col8 g]) = [Col.int .u8 fun e => IE.var (g_1 e)]) /\ zAD (g) len cap (nxA len (nxA len (nxA len a))) p /\ True) /\ IE.den (.conv .i64 (.conv .i32 (.bits .or .u32 (.bits .or .u32 (.bits .or .u32 (.conv .u32 (.var (nxV (g) len a))) (.shl .u32 (.conv .u32 (.var (nxV (g) len (nxA len a)))) (.lit 8))) (.shl .u32 (.conv .u32 (.var (nxV (g) len (nxA len (nxA len a))))) (.lit 16))) (.shl .u32 (.conv .u32 (.var (nxV (g) len (nxA len (nxA len (nxA len a)))))) (.lit 24))))) = v' /\ len = len /\ cap = cap /\ nxA len (nxA len (nxA len (nxA len a))) = a' /\ p = p /\ nxB len (nxA len (nxA len (nxA len a))) (nxB len (nxA len (nxA len a)) (nxB len (nxA len a) (nxB len a b))) = b' /\ cap = cap /\ (∀ (e : Nat), e < cap -> g e = g e) /\ True)) := by kernel_rfl
theorem zVe (g : Nat -> Int) (len cap : Nat) (a p : Int) (b : Bool) (mm : Int) (v1 v2 a' : Int) (b' : Bool) : zH P R1 (fun _ => 40) Tryz.f97 [.ptr 1 0, .int .u8 (.var mm)] [rdRow g cap, zAu len cap a p b] (zKX g len cap p (.tuple [.int .i64 (.var v1), .int .i64 (.var v2)]) a' b') =
  (BE.den (.ite (.var (decide (0 + cap <= cap))) (.var (decide (len <= cap))) (.lit false)) = true /\ ((∃ (g_1 : Nat -> Int), List.map Col.nrm (zY (NE.lit 0) [col8 g]) = [Col.int .u8 fun e => IE.var (g_1 e)]) /\ zAD (g) len cap a p /\ True) /\ (nxB len a b = true -> BE.den (.ite (.var (decide (0 + cap <= cap))) (.var (decide (len <= cap))) (.lit false)) = true /\ ((∃ (g_1 : Nat -> Int), List.map Col.nrm (zY (NE.lit 0) [col8 g]) = [Col.int .u8 fun e => IE.var (g_1 e)]) /\ zAD (g) len cap (nxA len a) p /\ True) /\ BE.den (.ite (.var (decide (0 + cap <= cap))) (.var (decide (len <= cap))) (.lit false)) = true /\ ((∃ (g_1 : Nat -> Int), List.map Col.nrm (zY (NE.lit 0) [col8 g]) = [Col.int .u8 fun e => IE.var (g_1 e)]) /\ zAD (g) len cap (nxA len a) p /\ True) /\ IE.den (.add .i64 (.conv .i64 (.bits .and .u8 (.shr .u8 (.var (nxV (g) len a)) (.lit 3)) (.lit 7))) (.var (hiV p 4))) = v1 /\ IE.den (.add .i64 (.conv .i64 (.bits .and .u8 (.var (nxV (g) len a)) (.lit 7))) (.var (hiV p 1))) = v2 /\ len = len /\ cap = cap /\ nxA len a = a' /\ p = p /\ BE.den (.lit true) = b' /\ cap = cap /\ (∀ (e : Nat), e < cap -> g e = g e) /\ True) /\ (nxB len a b = false -> BE.den (.ite (.var (decide (0 + cap <= cap))) (.var (decide (len <= cap))) (.lit false)) = true /\ ((∃ (g_1 : Nat -> Int), List.map Col.nrm (zY (NE.lit 0) [col8 g]) = [Col.int .u8 fun e => IE.var (g_1 e)]) /\ zAD (g) len cap (nxA len a) p /\ True) /\ BE.den (.ite (.var (decide (0 + cap <= cap))) (.var (decide (len <= cap))) (.lit false)) = true /\ ((∃ (g_1 : Nat -> Int), List.map Col.nrm (zY (NE.lit 0) [col8 g]) = [Col.int .u8 fun e => IE.var (g_1 e)]) /\ zAD (g) len cap (nxA len a) p /\ True) /\ IE.den (.add .i64 (.conv .i64 (.bits .and .u8 (.shr .u8 (.var (nxV (g) len a)) (.lit 3)) (.lit 7))) (.var (hiV p 4))) = v1 /\ IE.den (.add .i64 (.conv .i64 (.bits .and .u8 (.var (nxV (g) len a)) (.lit 7))) (.var (hiV p 1))) = v2 /\ len = len /\ cap = cap /\ nxA len a = a' /\ p = p /\ BE.den (.cmp .neq (.shr .u8 (.var (nxV (g) len a)) (.lit 6)) (.var mm)) = b' /\ cap = cap /\ (∀ (e : Nat), e < cap -> g e = g e) /\ True)) := by kernel_rfl
theorem zVw (g : Nat -> Int) (len cap : Nat) (a p : Int) (b : Bool) (mm : Int) (a' : Int) (b' : Bool) : zH P R1 (fun _ => 40) Tryz.f93 [.ptr 1 0, .int .u8 (.var mm)] [rdRow g cap, zAu len cap a p b] (zKX g len cap p (.tuple []) a' b') =
  ((b = true -> len = len /\ cap = cap /\ a = a' /\ p = p /\ BE.den (.lit true) = b' /\ cap = cap /\ (∀ (e : Nat), e < cap -> g e = g e) /\ True) /\ (b = false -> len = len /\ cap = cap /\ a = a' /\ p = p /\ BE.den (.cmp .neq (.bits .and .u8 (.var p) (.var mm)) (.lit 0)) = b' /\ cap = cap /\ (∀ (e : Nat), e < cap -> g e = g e) /\ True)) := by kernel_rfl
theorem zUz (g : Nat -> Int) (len cap : Nat) (a p : Int) (b : Bool) (mm : Int) (a' : Int) (b' : Bool) : zH P R1 (fun _ => 40) Tryz.f98 [.ptr 1 0, .int .u8 (.var mm)] [rdRow g cap, zAu len cap a p b] (zKX g len cap p (.tuple []) a' b') =
  (BE.den (.ite (.var (decide (0 + cap <= cap))) (.var (decide (len <= cap))) (.lit false)) = true /\ ((∃ (g_1 : Nat -> Int), List.map Col.nrm (zY (NE.lit 0) [col8 g]) = [Col.int .u8 fun e => IE.var (g_1 e)]) /\ zAD (g) len cap a p /\ True) /\ (BE.den (.cmp .neq (.var (nxV (g) len a)) (.var mm)) = true -> len = len /\ cap = cap /\ nxA len a = a' /\ p = p /\ BE.den (.lit true) = b' /\ cap = cap /\ (∀ (e : Nat), e < cap -> g e = g e) /\ True) /\ (BE.den (.cmp .neq (.var (nxV (g) len a)) (.var mm)) = false -> len = len /\ cap = cap /\ nxA len a = a' /\ p = p /\ nxB len a b = b' /\ cap = cap /\ (∀ (e : Nat), e < cap -> g e = g e) /\ True)) := by kernel_rfl
theorem zUk (n : Int) : IntKind.i8.wrap n = if n % 256 >= 128 then n % 256 - 256 else n % 256 := by simp [IntKind.wrap, IntKind.bits, IntKind.signed]
theorem zSP (n : Int) : IntKind.i32.wrap n = if n % 4294967296 >= 2147483648 then n % 4294967296 - 4294967296 else n % 4294967296 := by simp [IntKind.wrap, IntKind.bits, IntKind.signed]
theorem zZu (x y : Nat) (hx : x < 2 ^ 8) (hy : y < 2 ^ 8) : zAy .and .u8 x y = ((x &&& y : Nat) : Int) :=
 zMJ (· &&& ·) .and .u8 8 rfl rfl x y hx hy (fun a b ha hb => Nat.and_lt_two_pow _ hb) (fun a b => by simp [zAy])
theorem zIs (x : Int) (k : Nat) (hk : k <= 8) (h0 : 0 <= x) (h1 : x < 256) : zAy .and .u8 x (2 ^ k - 1) = x % 2 ^ k := by
 obtain ⟨n, rfl⟩ := Int.eq_ofNat_of_zero_le h0
 have hp : 2 ^ k <= 2 ^ 8 := Nat.pow_le_pow_right (by decide) hk
 have hpos : 0 < 2 ^ k := Nat.two_pow_pos k
 have e : ((2 : Int) ^ k - 1) = ((2 ^ k - 1 : Nat) : Int) := by
  rw [Int.natCast_sub hpos]; simp
 rw [e, zZu n _ (by omega) (by omega), Nat.and_two_pow_sub_one_eq_mod]
 simp
theorem and7 {x : Int} (h0 : 0 <= x) (h1 : x < 256) : zAy .and .u8 x 7 = x % 8 := by
 have := zIs x 3 (by decide) h0 h1
 simpa using this
theorem zW8 {x : Int} (h0 : 0 <= x) (h1 : x < 256) : zAy .and .u8 x 15 = x % 16 := by
 have := zIs x 4 (by decide) h0 h1
 simpa using this
theorem zNe (x : Int) (n : Nat) (hn : n <= 8) : shrI .u8 x n = x / 2 ^ n := zCU .u8 x n (by simpa [IntKind.bits] using hn)
theorem hiV4 {p : Int} (h0 : 0 <= p) (h1 : p < 16) : hiV p 4 = hiR p := by
 have : ∀ n : Fin 16, hiV ((n.val : Nat) : Int) 4 = hiR ((n.val : Nat) : Int) := by decide
 have h := this ⟨p.toNat, by omega⟩
 simpa [Int.toNat_of_nonneg h0] using h
theorem hiV1 {p : Int} (h0 : 0 <= p) (h1 : p < 16) : hiV p 1 = hiB p := by
 have : ∀ n : Fin 16, hiV ((n.val : Nat) : Int) 1 = hiB ((n.val : Nat) : Int) := by decide
 have h := this ⟨p.toNat, by omega⟩
 simpa [Int.toNat_of_nonneg h0] using h
theorem zVC {b : Int} (s : Nat) (hs : s <= 24) (h0 : 0 <= b) (h1 : b < 256) : shlI .u32 (IntKind.u32.wrap b) s = b * 2 ^ s := by
 have hle : (2 : Int) ^ s <= 2 ^ 24 := by exact_mod_cast Nat.pow_le_pow_right (by decide : 0 < 2) hs
 have hp : (0 : Int) < 2 ^ s := Int.pow_pos (by decide)
 have h2 : b * 2 ^ s <= 255 * 2 ^ 24 := Int.mul_le_mul (by omega) hle (Int.le_of_lt hp) (by decide)
 have h3 : 0 <= b * 2 ^ s := Int.mul_nonneg h0 (Int.le_of_lt hp)
 rw [z8 h0 (by omega), zCN .u32 b s (by simp [IntKind.bits]; omega)]
 exact z8 h3 (by omega)
theorem or4 {b0 b1 b2 b3 : Int} (h0 : 0 <= b0 /\ b0 < 256) (h1 : 0 <= b1 /\ b1 < 256) (h2 : 0 <= b2 /\ b2 < 256) (h3 : 0 <= b3 /\ b3 < 256) :
  IE.den (.bits .or .u32 (.bits .or .u32 (.bits .or .u32 (.conv .u32 (.var b0)) (.shl .u32 (.conv .u32 (.var b1)) (.lit 8))) (.shl .u32 (.conv .u32 (.var b2)) (.lit 16))) (.shl .u32 (.conv .u32 (.var b3)) (.lit 24))) = b0 + b1 * 256 + b2 * 65536 + b3 * 16777216 := by
 have s0 := Sub.shift b0 8 0 h0.1 (by simpa using h0.2)
 have s1 := Sub.shift b1 8 8 h1.1 (by simpa using h1.2)
 have s2 := Sub.shift b2 8 16 h2.1 (by simpa using h2.2)
 have s3 := Sub.shift b3 8 24 h3.1 (by simpa using h3.2)
 have o1 := Sub.or s0 s1 (by decide) (by decide) (by decide)
 have o2 := Sub.or o1.2 s2 (by decide) (by decide) (by decide)
 have o3 := Sub.or o2.2 s3 (by decide) (by decide) (by decide)
 simp only [IE.den]
 have e1 : shlI .u32 (IntKind.u32.wrap b1) 8 = b1 * 2 ^ 8 := zVC 8 (by decide) h1.1 h1.2
 have e2 : shlI .u32 (IntKind.u32.wrap b2) 16 = b2 * 2 ^ 16 := zVC 16 (by decide) h2.1 h2.2
 have e3 : shlI .u32 (IntKind.u32.wrap b3) 24 = b3 * 2 ^ 24 := zVC 24 (by decide) h3.1 h3.2
 rw [z8 h0.1 (by omega)]
 have e0 : b0 = b0 * 2 ^ 0 := by omega
 rw [e1, e2, e3, e0, o1.1, o2.1, o3.1]
 omega
theorem ask2 {len cap : Nat} (h : len <= cap) : BE.den (.ite (.var (decide (0 + cap <= cap))) (.var (decide (len <= cap))) (.lit false)) = true := zAl (by simp) (by simpa using h)
theorem preG {g : Nat -> Int} {len cap : Nat} {a p : Int} (h : zAD g len cap a p) : (∃ (g_1 : Nat -> Int), List.map Col.nrm (zY (NE.lit 0) [col8 g]) = [Col.int .u8 fun e => IE.var (g_1 e)]) /\ zAD g len cap a p /\ True := ⟨⟨g, rfl⟩, h, trivial⟩
theorem zAD.next {g : Nat -> Int} {len cap : Nat} {a p : Int} (h : zAD g len cap a p) : zAD g len cap (nxA len a) p := by
 have h0 := h.pos0
 have h1 := h.pos1
 refine ⟨h.room, h.small, ?_, ?_, h.p0, h.p1, h.byte⟩ <;> unfold nxA <;> split <;> omega
theorem zAD.nx {g : Nat -> Int} {len cap : Nat} {a p : Int} (h : zAD g len cap a p) : 0 <= nxV g len a /\ nxV g len a < 256 := by
 have h0 := h.pos0
 unfold nxV
 split
 ·exact h.byte _ (by omega)
 ·omega
def nuV (g : Nat -> Int) (len : Nat) (a : Int) (long : Bool) : Int :=
 if long = true then s32 (nxV g len a + nxV g len (nxA len a) * 256 + nxV g len (nxA len (nxA len a)) * 65536 + nxV g len (nxA len (nxA len (nxA len a))) * 16777216) else s8 (nxV g len a)
def nuA (len : Nat) (a : Int) (long : Bool) : Int := if long = true then nxA len (nxA len (nxA len (nxA len a))) else nxA len a
def nuB (len : Nat) (a : Int) (b : Bool) (long : Bool) : Bool := if long = true then nxB len (nxA len (nxA len (nxA len a))) (nxB len (nxA len (nxA len a)) (nxB len (nxA len a) (nxB len a b))) else nxB len a b
def arB : List SV -> Option Bool
 | [.bool e] => some e.den
 | _ => none
theorem zbV (pl : List SV) (x : Bool) (h : arB pl = some x) : zW [.plain] [] pl [] 1 = [.bool (.var x)] := by
 unfold arB at h
 split at h
 ·simp only [Option.some.injEq] at h; subst h; rfl
 ·simp at h
abbrev zQv : zl := zC9 rdTy rdK [.plain] (zH6 arB) (zBm arB (fun g len a _ _ x => .int .i64 (.var (nuV g len a x))) (fun _ len a p b x => rdCs (nuA len a x) p (nuB len a b x)))
abbrev zVr : zEz := zEL rdTy rdK [.plain] (zBm arB (fun g len a _ _ x => .int .i64 (.var (nuV g len a x))) (fun _ len a p b x => rdCs (nuA len a x) p (nuB len a b x)))
theorem not_true {b : Bool} (h : BE.den (.not (.var b)) = true) : b = false := by simpa [BE.den] using h
theorem zPP {b : Bool} (h : BE.den (.not (.var b)) = false) : b = true := by simpa [BE.den] using h
theorem zQt : zZ P 95 zQv := by
 have hs := zN (un := fun _ => 40) zUC Tryz.func95
 refine zCH hs (by simp) (arS := fun x => [.bool (.var x)]) zbV (posF := fun _ len a _ _ x => nuA len a x) (badF := fun _ len a _ b x => nuB len a b x) (fun _ _ _ _ _ _ => trivial) (fun _ _ _ _ _ _ => rfl) ?_
 intro g len cap a p b x hg
 rw [zQu]
 have hb := hg.nx
 refine ⟨ask2 hg.room, preG hg, fun h => ?_, fun h => ?_⟩
 ·obtain rfl := not_true h
  refine ⟨?_, rfl, rfl, rfl, rfl, rfl, rfl, fun _ _ => rfl, trivial⟩
  simp only [IE.den, nuV, Bool.false_eq_true, if_false]
  rw [z8 hb.1 (by omega), zUk]
  unfold s8
  split <;> split <;> (rw [zE (by omega) (by omega)]; omega)
 ·obtain rfl := zPP h
  refine ⟨ask2 hg.room, preG hg.next, ask2 hg.room, preG hg.next.next, ask2 hg.room, preG hg.next.next.next, ?_, rfl, rfl, rfl, rfl, rfl, rfl, fun _ _ => rfl, trivial⟩
  have h1 := hg.next.nx
  have h2 := hg.next.next.nx
  have h3 := hg.next.next.next.nx
  have e := or4 hb h1 h2 h3
  rw [show nuV g len a true = s32 (nxV g len a + nxV g len (nxA len a) * 256 + nxV g len (nxA len (nxA len a)) * 65536 + nxV g len (nxA len (nxA len (nxA len a))) * 16777216) from rfl, <- e]
  rw [show ∀ X : IE, IE.den (.conv .i64 (.conv .i32 X)) = IntKind.i64.wrap (IntKind.i32.wrap X.den) from fun _ => rfl]
  generalize IE.den _ = z at *
  rw [zSP]
  unfold s32
  split <;> split <;> (rw [zE (by omega) (by omega)]; omega)
def paR (g : Nat -> Int) (len : Nat) (a p : Int) : Int := nxV g len a / 8 % 8 + hiR p
def paB (g : Nat -> Int) (len : Nat) (a p : Int) : Int := nxV g len a % 8 + hiB p
def paF (g : Nat -> Int) (len : Nat) (a : Int) (b : Bool) (mm : Int) : Bool := nxB len a b || !decide (nxV g len a / 64 = mm)
abbrev zYF : zl := zC9 rdTy rdK [.plain] (zH6 ar8) (zBm ar8 (fun g len a p _ _ => .tuple [.int .i64 (.var (paR g len a p)), .int .i64 (.var (paB g len a p))]) (fun g len a p b x => rdCs (nxA len a) p (paF g len a b x)))
abbrev zak : zEz := zEL rdTy rdK [.plain] (zBm ar8 (fun g len a p _ _ => .tuple [.int .i64 (.var (paR g len a p)), .int .i64 (.var (paB g len a p))]) (fun g len a p b x => rdCs (nxA len a) p (paF g len a b x)))
theorem zQn {g : Nat -> Int} {len cap : Nat} {a p : Int} (h : zAD g len cap a p) : IE.den (.add .i64 (.conv .i64 (.bits .and .u8 (.shr .u8 (.var (nxV (g) len a)) (.lit 3)) (.lit 7))) (.var (hiV p 4))) = paR g len a p := by
 have hb := h.nx
 have hh := zOL p
 simp only [IE.den, hiV4 h.p0 h.p1]
 rw [show shrI .u8 (nxV g len a) 3 = nxV g len a / 2 ^ 3 from zNe _ 3 (by decide), and7 (by omega) (by omega)]
 unfold paR
 rw [zE (n := nxV g len a / 2 ^ 3 % 8) (by omega) (by omega), zE (by omega) (by omega)]
 rfl
theorem zQo {g : Nat -> Int} {len cap : Nat} {a p : Int} (h : zAD g len cap a p) : IE.den (.add .i64 (.conv .i64 (.bits .and .u8 (.var (nxV (g) len a)) (.lit 7))) (.var (hiV p 1))) = paB g len a p := by
 have hb := h.nx
 have hh := zD6 p
 simp only [IE.den, hiV1 h.p0 h.p1]
 rw [and7 (by omega) (by omega)]
 unfold paB
 rw [zE (n := nxV g len a % 8) (by omega) (by omega), zE (by omega) (by omega)]
theorem zNf {x mm : Int} : BE.den (.cmp .neq (.shr .u8 (.var x) (.lit 6)) (.var mm)) = !decide (x / 64 = mm) := by
 simp only [BE.den, IE.den, zAd]
 rw [show shrI .u8 x 6 = x / 2 ^ 6 from zNe _ 6 (by decide)]
 rfl
theorem zVd : zZ P 97 zYF := by
 have hs := zN (un := fun _ => 40) zUC Tryz.func97
 refine zCH hs (by simp) (arS := fun x => [.int .u8 (.var x)]) zT6 (posF := fun _ len a _ _ _ => nxA len a) (badF := fun g len a _ b x => paF g len a b x) (fun _ _ _ _ _ _ => ⟨trivial, trivial, trivial⟩) (fun _ _ _ _ _ _ => rfl) ?_
 intro g len cap a p b x hg
 rw [zVe]
 refine ⟨ask2 hg.room, preG hg, fun h => ?_, fun h => ?_⟩
 ·refine ⟨ask2 hg.room, preG hg.next, ask2 hg.room, preG hg.next, zQn hg, zQo hg, rfl, rfl, rfl, rfl, ?_, rfl, fun _ _ => rfl, trivial⟩
  unfold paF; rw [h]; rfl
 ·refine ⟨ask2 hg.room, preG hg.next, ask2 hg.room, preG hg.next, zQn hg, zQo hg, rfl, rfl, rfl, rfl, ?_, rfl, fun _ _ => rfl, trivial⟩
  unfold paF; rw [h, zNf]; rfl
def noF (p mm : Int) (b : Bool) : Bool := b || !decide (zAy .and .u8 p mm = 0)
def waF (g : Nat -> Int) (len : Nat) (a : Int) (b : Bool) (mm : Int) : Bool := nxB len a b || !decide (nxV g len a = mm)
abbrev zYW : zl := zC9 rdTy rdK [.plain] (zH6 ar8) (zBm ar8 (fun _ _ _ _ _ _ => .tuple []) (fun _ _ a p b x => rdCs a p (noF p x b)))
abbrev zas : zEz := zEL rdTy rdK [.plain] (zBm ar8 (fun _ _ _ _ _ _ => .tuple []) (fun _ _ a p b x => rdCs a p (noF p x b)))
abbrev zXM : zl := zC9 rdTy rdK [.plain] (zH6 ar8) (zBm ar8 (fun _ _ _ _ _ _ => .tuple []) (fun g len a p b x => rdCs (nxA len a) p (waF g len a b x)))
abbrev zZ7 : zEz := zEL rdTy rdK [.plain] (zBm ar8 (fun _ _ _ _ _ _ => .tuple []) (fun g len a p b x => rdCs (nxA len a) p (waF g len a b x)))
theorem none_ok : zZ P 93 zYW := by
 have hs := zN (un := fun _ => 40) zUC Tryz.func93
 refine zCH hs (by simp) (arS := fun x => [.int .u8 (.var x)]) zT6 (posF := fun _ _ a _ _ _ => a) (badF := fun _ _ _ p b x => noF p x b) (fun _ _ _ _ _ _ => trivial) (fun _ _ _ _ _ _ => rfl) ?_
 intro g len cap a p b x hg
 rw [zVw]
 refine ⟨fun h => ?_, fun h => ?_⟩
 ·exact ⟨rfl, rfl, rfl, rfl, by unfold noF; rw [h]; rfl, rfl, fun _ _ => rfl, trivial⟩
 ·exact ⟨rfl, rfl, rfl, rfl, by unfold noF; rw [h]; simp only [BE.den, IE.den, zAd]; rfl, rfl, fun _ _ => rfl, trivial⟩
theorem zUy : zZ P 98 zXM := by
 have hs := zN (un := fun _ => 40) zUC Tryz.func98
 refine zCH hs (by simp) (arS := fun x => [.int .u8 (.var x)]) zT6 (posF := fun _ len a _ _ _ => nxA len a) (badF := fun g len a _ b x => waF g len a b x) (fun _ _ _ _ _ _ => trivial) (fun _ _ _ _ _ _ => rfl) ?_
 intro g len cap a p b x hg
 rw [zUz]
 refine ⟨ask2 hg.room, preG hg, fun h => ?_, fun h => ?_⟩
 ·have h : ¬ nxV g len a = x := by simpa [BE.den, IE.den, zAd] using h
  exact ⟨rfl, rfl, rfl, rfl, by simp [waF, h, BE.den], rfl, fun _ _ => rfl, trivial⟩
 ·have h : nxV g len a = x := by simpa [BE.den, IE.den, zAd] using h
  exact ⟨rfl, rfl, rfl, rfl, by simp [waF, h], rfl, fun _ _ => rfl, trivial⟩
def rdT2 : List (FuncId × Cal) :=
 [(75, .spec zV0 zYY), (77, .spec zSK zUi), (94, .spec zWa zYs),
  (95, .spec zQv zVr), (97, .spec zYF zak), (93, .spec zYW zas), (98, .spec zXM zZ7)]
theorem zQc : zO P (zx rdT2) :=
 zG zQ4 (zG zOs (zG zRh (zG zQt (zG zVd (zG none_ok (zG zUy (fun g s h => by simp [zx] at h)))))))
noncomputable def R2 : FuncId -> Option Cal := inl P (fun _ _ => 40) (zx rdT2) 6
theorem zbf : zO P R2 := zAh zQc 6
theorem zRB (g : Nat -> Int) (len cap : Nat) (a p : Int) (b : Bool) (v1 v2 v3 : Int) (v4 : Bool) (a' : Int) (b' : Bool) : zH P R2 (fun _ => 40) Tryz.f96 [.ptr 1 0] [rdRow g cap, zAu len cap a p b] (zKX g len cap p (.tuple [.int .i64 (.var v1), .int .i64 (.var v2), .int .i64 (.var v3), .bool (.var v4)]) a' b') =
  ((BE.den (.cmp .lss (.var a) (.var (↑len : Int))) = true -> BE.den (.ite (.var (decide (len <= cap /\ 0 + cap <= cap))) (.var (decide (0 <= a /\ a < (↑len : Int)))) (.lit false)) = true /\ decide (0 + Int.toNat a + 1 <= cap) = true /\ (BE.den (.cmp .eql (.shr .u8 (.var (g (0 + Int.toNat a))) (.lit 6)) (.lit 2)) = true -> BE.den (.ite (.var (decide (0 + cap <= cap))) (.var (decide (len <= cap))) (.lit false)) = true /\ ((∃ (g_1 : Nat -> Int), List.map Col.nrm (zY (NE.lit 0) [col8 g]) = [Col.int .u8 fun e => IE.var (g_1 e)]) /\ zAD (g) len cap a p /\ True) /\ (BE.den (.cmp .eql (.bits .and .i64 (.var (paB (g) len a p)) (.lit 7)) (.lit 4)) = true -> BE.den (.ite (.var (decide (0 + cap <= cap))) (.var (decide (len <= cap))) (.lit false)) = true /\ ((∃ (g_1 : Nat -> Int), List.map Col.nrm (zY (NE.lit 0) [col8 g]) = [Col.int .u8 fun e => IE.var (g_1 e)]) /\ zAD (g) len cap (nxA len a) p /\ True) /\ BE.den (.ite (.var (decide (0 + cap <= cap))) (.var (decide (len <= cap))) (.lit false)) = true /\ ((∃ (g_1 : Nat -> Int), List.map Col.nrm (zY (NE.lit 0) [col8 g]) = [Col.int .u8 fun e => IE.var (g_1 e)]) /\ zAD (g) len cap (nxA len (nxA len a)) p /\ True) /\ paR (g) len a p = v1 /\ paB (g) len a p = v2 /\ nuV (g) len (nxA len (nxA len a)) (BE.den (.cmp .eql (.shr .u8 (.var (g (0 + Int.toNat a))) (.lit 6)) (.lit 2))) = v3 /\ BE.den (.cmp .eql (.shr .u8 (.var (g (0 + Int.toNat a))) (.lit 6)) (.lit 2)) = v4 /\ len = len /\ cap = cap /\ nuA len (nxA len (nxA len a)) (BE.den (.cmp .eql (.shr .u8 (.var (g (0 + Int.toNat a))) (.lit 6)) (.lit 2))) = a' /\ p = p /\ nuB len (nxA len (nxA len a)) (waF (g) len (nxA len a) (paF (g) len a b 2) 36) (BE.den (.cmp .eql (.shr .u8 (.var (g (0 + Int.toNat a))) (.lit 6)) (.lit 2))) = b' /\ cap = cap /\ (∀ (e : Nat), e < cap -> g e = g e) /\ True) /\ (BE.den (.cmp .eql (.bits .and .i64 (.var (paB (g) len a p)) (.lit 7)) (.lit 4)) = false -> BE.den (.ite (.var (decide (0 + cap <= cap))) (.var (decide (len <= cap))) (.lit false)) = true /\ ((∃ (g_1 : Nat -> Int), List.map Col.nrm (zY (NE.lit 0) [col8 g]) = [Col.int .u8 fun e => IE.var (g_1 e)]) /\ zAD (g) len cap (nxA len a) p /\ True) /\ paR (g) len a p = v1 /\ paB (g) len a p = v2 /\ nuV (g) len (nxA len a) (BE.den (.cmp .eql (.shr .u8 (.var (g (0 + Int.toNat a))) (.lit 6)) (.lit 2))) = v3 /\ BE.den (.cmp .eql (.shr .u8 (.var (g (0 + Int.toNat a))) (.lit 6)) (.lit 2)) = v4 /\ len = len /\ cap = cap /\ nuA len (nxA len a) (BE.den (.cmp .eql (.shr .u8 (.var (g (0 + Int.toNat a))) (.lit 6)) (.lit 2))) = a' /\ p = p /\ nuB len (nxA len a) (paF (g) len a b 2) (BE.den (.cmp .eql (.shr .u8 (.var (g (0 + Int.toNat a))) (.lit 6)) (.lit 2))) = b' /\ cap = cap /\ (∀ (e : Nat), e < cap -> g e = g e) /\ True)) /\ (BE.den (.cmp .eql (.shr .u8 (.var (g (0 + Int.toNat a))) (.lit 6)) (.lit 2)) = false -> BE.den (.ite (.var (decide (0 + cap <= cap))) (.var (decide (len <= cap))) (.lit false)) = true /\ ((∃ (g_1 : Nat -> Int), List.map Col.nrm (zY (NE.lit 0) [col8 g]) = [Col.int .u8 fun e => IE.var (g_1 e)]) /\ zAD (g) len cap a p /\ True) /\ (BE.den (.cmp .eql (.bits .and .i64 (.var (paB (g) len a p)) (.lit 7)) (.lit 4)) = true -> BE.den (.ite (.var (decide (0 + cap <= cap))) (.var (decide (len <= cap))) (.lit false)) = true /\ ((∃ (g_1 : Nat -> Int), List.map Col.nrm (zY (NE.lit 0) [col8 g]) = [Col.int .u8 fun e => IE.var (g_1 e)]) /\ zAD (g) len cap (nxA len a) p /\ True) /\ BE.den (.ite (.var (decide (0 + cap <= cap))) (.var (decide (len <= cap))) (.lit false)) = true /\ ((∃ (g_1 : Nat -> Int), List.map Col.nrm (zY (NE.lit 0) [col8 g]) = [Col.int .u8 fun e => IE.var (g_1 e)]) /\ zAD (g) len cap (nxA len (nxA len a)) p /\ True) /\ paR (g) len a p = v1 /\ paB (g) len a p = v2 /\ nuV (g) len (nxA len (nxA len a)) (BE.den (.cmp .eql (.shr .u8 (.var (g (0 + Int.toNat a))) (.lit 6)) (.lit 2))) = v3 /\ BE.den (.cmp .eql (.shr .u8 (.var (g (0 + Int.toNat a))) (.lit 6)) (.lit 2)) = v4 /\ len = len /\ cap = cap /\ nuA len (nxA len (nxA len a)) (BE.den (.cmp .eql (.shr .u8 (.var (g (0 + Int.toNat a))) (.lit 6)) (.lit 2))) = a' /\ p = p /\ nuB len (nxA len (nxA len a)) (waF (g) len (nxA len a) (paF (g) len a b 1) 36) (BE.den (.cmp .eql (.shr .u8 (.var (g (0 + Int.toNat a))) (.lit 6)) (.lit 2))) = b' /\ cap = cap /\ (∀ (e : Nat), e < cap -> g e = g e) /\ True) /\ (BE.den (.cmp .eql (.bits .and .i64 (.var (paB (g) len a p)) (.lit 7)) (.lit 4)) = false -> BE.den (.ite (.var (decide (0 + cap <= cap))) (.var (decide (len <= cap))) (.lit false)) = true /\ ((∃ (g_1 : Nat -> Int), List.map Col.nrm (zY (NE.lit 0) [col8 g]) = [Col.int .u8 fun e => IE.var (g_1 e)]) /\ zAD (g) len cap (nxA len a) p /\ True) /\ paR (g) len a p = v1 /\ paB (g) len a p = v2 /\ nuV (g) len (nxA len a) (BE.den (.cmp .eql (.shr .u8 (.var (g (0 + Int.toNat a))) (.lit 6)) (.lit 2))) = v3 /\ BE.den (.cmp .eql (.shr .u8 (.var (g (0 + Int.toNat a))) (.lit 6)) (.lit 2)) = v4 /\ len = len /\ cap = cap /\ nuA len (nxA len a) (BE.den (.cmp .eql (.shr .u8 (.var (g (0 + Int.toNat a))) (.lit 6)) (.lit 2))) = a' /\ p = p /\ nuB len (nxA len a) (paF (g) len a b 1) (BE.den (.cmp .eql (.shr .u8 (.var (g (0 + Int.toNat a))) (.lit 6)) (.lit 2))) = b' /\ cap = cap /\ (∀ (e : Nat), e < cap -> g e = g e) /\ True))) /\ (BE.den (.cmp .lss (.var a) (.var (↑len : Int))) = false -> BE.den (.ite (.var (decide (0 + cap <= cap))) (.var (decide (len <= cap))) (.lit false)) = true /\ ((∃ (g_1 : Nat -> Int), List.map Col.nrm (zY (NE.lit 0) [col8 g]) = [Col.int .u8 fun e => IE.var (g_1 e)]) /\ zAD (g) len cap a p /\ True) /\ (BE.den (.cmp .eql (.bits .and .i64 (.var (paB (g) len a p)) (.lit 7)) (.lit 4)) = true -> BE.den (.ite (.var (decide (0 + cap <= cap))) (.var (decide (len <= cap))) (.lit false)) = true /\ ((∃ (g_1 : Nat -> Int), List.map Col.nrm (zY (NE.lit 0) [col8 g]) = [Col.int .u8 fun e => IE.var (g_1 e)]) /\ zAD (g) len cap (nxA len a) p /\ True) /\ BE.den (.ite (.var (decide (0 + cap <= cap))) (.var (decide (len <= cap))) (.lit false)) = true /\ ((∃ (g_1 : Nat -> Int), List.map Col.nrm (zY (NE.lit 0) [col8 g]) = [Col.int .u8 fun e => IE.var (g_1 e)]) /\ zAD (g) len cap (nxA len (nxA len a)) p /\ True) /\ paR (g) len a p = v1 /\ paB (g) len a p = v2 /\ nuV (g) len (nxA len (nxA len a)) (BE.den (.lit false)) = v3 /\ BE.den (.lit false) = v4 /\ len = len /\ cap = cap /\ nuA len (nxA len (nxA len a)) (BE.den (.lit false)) = a' /\ p = p /\ nuB len (nxA len (nxA len a)) (waF (g) len (nxA len a) (paF (g) len a b 1) 36) (BE.den (.lit false)) = b' /\ cap = cap /\ (∀ (e : Nat), e < cap -> g e = g e) /\ True) /\ (BE.den (.cmp .eql (.bits .and .i64 (.var (paB (g) len a p)) (.lit 7)) (.lit 4)) = false -> BE.den (.ite (.var (decide (0 + cap <= cap))) (.var (decide (len <= cap))) (.lit false)) = true /\ ((∃ (g_1 : Nat -> Int), List.map Col.nrm (zY (NE.lit 0) [col8 g]) = [Col.int .u8 fun e => IE.var (g_1 e)]) /\ zAD (g) len cap (nxA len a) p /\ True) /\ paR (g) len a p = v1 /\ paB (g) len a p = v2 /\ nuV (g) len (nxA len a) (BE.den (.lit false)) = v3 /\ BE.den (.lit false) = v4 /\ len = len /\ cap = cap /\ nuA len (nxA len a) (BE.den (.lit false)) = a' /\ p = p /\ nuB len (nxA len a) (paF (g) len a b 1) (BE.den (.lit false)) = b' /\ cap = cap /\ (∀ (e : Nat), e < cap -> g e = g e) /\ True))) := by kernel_rfl
def meL (g : Nat -> Int) (len : Nat) (a : Int) : Bool := decide (nxV g len a / 64 = 2)
def meS (g : Nat -> Int) (len : Nat) (a : Int) : Bool := decide (nxV g len a % 8 = 4)
def meQ (g : Nat -> Int) (len : Nat) (a : Int) : Int := if meS g len a = true then nxA len (nxA len a) else nxA len a
def meF (g : Nat -> Int) (len : Nat) (a : Int) (b : Bool) : Bool :=
 if meS g len a = true then waF g len (nxA len a) (paF g len a b (if meL g len a = true then 2 else 1)) 36 else paF g len a b (if meL g len a = true then 2 else 1)
def meV (g : Nat -> Int) (len : Nat) (a : Int) : Int := nuV g len (meQ g len a) (meL g len a)
def meA (g : Nat -> Int) (len : Nat) (a : Int) : Int := nuA len (meQ g len a) (meL g len a)
def meB (g : Nat -> Int) (len : Nat) (a : Int) (b : Bool) : Bool := nuB len (meQ g len a) (meF g len a b) (meL g len a)
abbrev zRC : zl := zC9 rdTy rdK [] (zH6 arU) (zBm arU (fun g len a p _ _ => .tuple [.int .i64 (.var (paR g len a p)), .int .i64 (.var (paB g len a p)), .int .i64 (.var (meV g len a)), .bool (.var (meL g len a))]) (fun g len a p b _ => rdCs (meA g len a) p (meB g len a b)))
abbrev zV6 : zEz := zEL rdTy rdK [] (zBm arU (fun g len a p _ _ => .tuple [.int .i64 (.var (paR g len a p)), .int .i64 (.var (paB g len a p)), .int .i64 (.var (meV g len a)), .bool (.var (meL g len a))]) (fun g len a p b _ => rdCs (meA g len a) p (meB g len a b)))
theorem zTM (g : Nat -> Int) (len : Nat) (a p : Int) : BE.den (.cmp .eql (.bits .and .i64 (.var (paB g len a p)) (.lit 7)) (.lit 4)) = meS g len a := by
 have : ∀ n : Fin 16, zAy .and .i64 ((n.val : Nat) : Int) 7 = ((n.val % 8 : Nat) : Int) := by decide
 have hB := zD6 p
 have h0 : 0 <= paB g len a p /\ paB g len a p < 16 := by unfold paB; omega
 have h := this ⟨(paB g len a p).toNat, by omega⟩
 simp only [Int.toNat_of_nonneg h0.1] at h
 simp only [BE.den, IE.den, za, meS]
 rw [h]
 congr 1
 have : (((paB g len a p).toNat % 8 : Nat) : Int) = paB g len a p % 8 := by omega
 rw [this]
 unfold paB
 exact propext ⟨fun h => by omega, fun h => by omega⟩
theorem zRA : zZ P 96 zRC := by
 have hs := zN (un := fun _ => 40) zbf Tryz.func96
 refine zCH hs (by simp) (arS := fun _ => []) zW6 (posF := fun g len a _ _ _ => meA g len a) (badF := fun g len a _ b _ => meB g len a b) (fun _ _ _ _ _ _ => ⟨trivial, trivial, trivial, trivial, trivial⟩) (fun _ _ _ _ _ _ => rfl) ?_
 intro g len cap a p b x hg
 rw [zRB, zTM]
 have h0 := hg.pos0
 have h3 := hg.room
 refine ⟨fun h => ?_, fun h => ?_⟩
 ·have h : a < len := by simpa [BE.den, IE.den, zQ] using h
  have e1 : BE.den (.cmp .eql (.shr .u8 (.var (g (0 + Int.toNat a))) (.lit 6)) (.lit 2)) = meL g len a := by
   simp only [BE.den, IE.den, za, meL]
   rw [show shrI .u8 (g (0 + a.toNat)) 6 = g (0 + a.toNat) / 2 ^ 6 from zNe _ 6 (by decide)]
   unfold nxV
   rw [if_pos h, Nat.zero_add]; rfl
  rw [e1]
  refine ⟨zAl (by simp; omega) (by simp; omega), by simp; omega, fun hl => ?_, fun hl => ?_⟩
  ·refine ⟨ask2 hg.room, preG hg, fun hs => ?_, fun hs => ?_⟩
   ·rw [hl]
    exact ⟨ask2 hg.room, preG hg.next, ask2 hg.room, preG hg.next.next, rfl, rfl, by simp only [meV, meQ, hs, hl, if_true], rfl, rfl, rfl, by simp only [meA, meQ, hs, hl, if_true], rfl, by simp only [meB, meQ, meF, hs, hl, if_true], rfl, fun _ _ => rfl, trivial⟩
   ·rw [hl]
    exact ⟨ask2 hg.room, preG hg.next, rfl, rfl, by simp only [meV, meQ, hs, hl, Bool.false_eq_true, if_false], rfl, rfl, rfl, by simp only [meA, meQ, hs, hl, Bool.false_eq_true, if_false], rfl, by simp only [meB, meQ, meF, hs, hl, if_true, Bool.false_eq_true, if_false], rfl, fun _ _ => rfl, trivial⟩
  ·refine ⟨ask2 hg.room, preG hg, fun hs => ?_, fun hs => ?_⟩
   ·rw [hl]
    exact ⟨ask2 hg.room, preG hg.next, ask2 hg.room, preG hg.next.next, rfl, rfl, by simp only [meV, meQ, hs, hl, if_true], rfl, rfl, rfl, by simp only [meA, meQ, hs, hl, if_true], rfl, by simp only [meB, meQ, meF, hs, hl, if_true, Bool.false_eq_true, if_false], rfl, fun _ _ => rfl, trivial⟩
   ·rw [hl]
    exact ⟨ask2 hg.room, preG hg.next, rfl, rfl, by simp only [meV, meQ, hs, hl, Bool.false_eq_true, if_false], rfl, rfl, rfl, by simp only [meA, meQ, hs, hl, Bool.false_eq_true, if_false], rfl, by simp only [meB, meQ, meF, hs, hl, Bool.false_eq_true, if_false], rfl, fun _ _ => rfl, trivial⟩
 ·have h : ¬ a < len := by simpa [BE.den, IE.den, zQ] using h
  have hv : nxV g len a = 0 := by unfold nxV; rw [if_neg h]
  have hl : meL g len a = false := by unfold meL; rw [hv]; rfl
  have hs : meS g len a = false := by unfold meS; rw [hv]; rfl
  refine ⟨ask2 hg.room, preG hg, fun hs' => absurd hs' (by rw [hs]; simp), fun _ => ?_⟩
  exact ⟨ask2 hg.room, preG hg.next, rfl, rfl, by simp only [meV, meQ, hs, hl, BE.den, Bool.false_eq_true, if_false], by rw [hl]; rfl, rfl, rfl, by simp only [meA, meQ, hs, hl, BE.den, Bool.false_eq_true, if_false], rfl, by simp only [meB, meQ, meF, hs, hl, BE.den, Bool.false_eq_true, if_false], rfl, fun _ _ => rfl, trivial⟩
def rdT3 : List (FuncId × Cal) := (96, .spec zRC zV6) :: rdT2
theorem zKW : zO P (zx rdT3) := zG zRA zQc
noncomputable def R3 : FuncId -> Option Cal := inl P (fun _ _ => 40) (zx rdT3) 6
theorem zbe : zO P R3 := zAh zKW 6
end Go.Proofs.YtajcmjjgnbaahaaGreat.Amd
