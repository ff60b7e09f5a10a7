/- The document's answer to layer 15: immediates out of words and into them. -/
import Derived.Test.YtajcmjjgnbaahaaGreatZr2
set_option linter.unusedVariables false
set_option linter.unusedSimpArgs false
namespace Go.Proofs.YtajcmjjgnbaahaaGreat.Rv
open Go Go.Proofs.YtajcmjjgnbaahaaGreat.Sx Go.RowKit
def rrT : List (FuncId × Cal) := [(25, .pure zRt), (36, .pure zRr)]
theorem zUJ : zO P (zx rrT) := zG zTI (zG zSp (zJw (by simp)))
noncomputable def H0 : FuncId -> Option Cal := inl P (fun _ _ => 40) (zx rrT) 6
theorem zUD : zO P H0 := zAh zUJ 6
def fRAt : zBN
 | [.int .i64 e, .int .i64 (.lit lo), .int .i64 (.lit n), .int .i64 (.lit to)] =>
  if (atList.contains (lo.toNat, n.toNat, to.toNat) && decide (0 <= lo) && decide (0 <= n) && decide (0 <= to)) = true then some (some (.var (zHG e.den)), .int .u32 (.var (e.den / 2 ^ lo.toNat % 2 ^ n.toNat * 2 ^ to.toNat))) else none
 | _ => none
  where atList : List (Nat × Nat × Nat) := [(0, 20, 12), (0, 12, 20), (0, 6, 20), (0, 5, 7), (5, 7, 25), (1, 4, 8), (5, 6, 25), (11, 1, 7), (12, 1, 31), (1, 10, 21), (11, 1, 20), (12, 8, 12), (20, 1, 31)]
theorem zZr (p : Nat × Nat × Nat) (hp : p ∈ fRAt.atList) (v : Int) (Q : SV -> Prop) : zH P H0 (fun _ => 40) Tryz.f37 [.int .i64 (.var v), .int .i64 (.lit (p.1 : Nat)), .int .i64 (.lit (p.2.1 : Nat)), .int .i64 (.lit (p.2.2 : Nat))] [] (fun v _ => Q v) =
  (BE.den (BE.var (zIR (IE.den (IE.conv .u64 (.var v))))) = true /\ Q (.int .u32 (.shl .u32 (.conv .u32 (.var (IE.den (.conv .u64 (.var v)) / 2 ^ p.1 % 2 ^ p.2.1))) (.lit (p.2.2 : Nat))))) := by
 simp only [fRAt.atList, List.mem_cons, List.not_mem_nil, or_false] at hp
 rcases hp with rfl | rfl | rfl | rfl | rfl | rfl | rfl | rfl | rfl | rfl | rfl | rfl | rfl <;> kernel_rfl
theorem zMK : ∀ p ∈ fRAt.atList, p.1 + p.2.1 <= 64 /\ p.2.1 + p.2.2 <= 32 := by decide
theorem zNV (v : Int) (lo n : Nat) (h : lo + n <= 64) : v % 18446744073709551616 / 2 ^ lo % 2 ^ n = v / 2 ^ lo % 2 ^ n := by
 have e : (18446744073709551616 : Int) = 2 ^ lo * (2 ^ n * 2 ^ (64 - lo - n)) := by
  rw [<- Int.pow_add, <- Int.pow_add, show lo + (n + (64 - lo - n)) = 64 by omega]; rfl
 have hp : (0 : Int) < 2 ^ lo := Int.pow_pos (by decide)
 have hk : v = v % 18446744073709551616 + 2 ^ lo * (2 ^ n * (2 ^ (64 - lo - n) * (v / 18446744073709551616))) := by
  have := Int.emod_add_mul_ediv v 18446744073709551616
  rw [<- Int.mul_assoc, <- Int.mul_assoc, Int.mul_assoc (2 ^ lo), <- e]
  exact this.symm
 have h2 : v / 2 ^ lo = v % 18446744073709551616 / 2 ^ lo + 2 ^ n * (2 ^ (64 - lo - n) * (v / 18446744073709551616)) := by
  rw [<- Int.add_mul_ediv_left _ _ (by omega : (2 : Int) ^ lo ≠ 0), <- hk]
 rw [h2, Int.add_mul_emod_self_left]
theorem zbU : zAr P 37 fRAt := by
 refine zBO (zN (un := fun _ => 40) zUD Tryz.func37) ?_
 intro args p v hF hp
 unfold fRAt at hF
 split at hF
 ·rename_i e lo n to
  split at hF
  ·rename_i hc
   simp only [Bool.and_eq_true, decide_eq_true_eq] at hc
   obtain ⟨⟨⟨h1, h2⟩, h3⟩, h4⟩ := hc
   simp only [Option.some.injEq, Prod.mk.injEq] at hF; obtain ⟨rfl, rfl⟩ := hF
   have hmem : (lo.toNat, n.toNat, to.toNat) ∈ fRAt.atList := by simpa using h1
   obtain ⟨s1, s2⟩ := zMK _ hmem
   simp only at s1 s2
   simp only [zAJ, BE.den, zLu] at hp
   refine ⟨[.int .i64 (.var e.den), .int .i64 (.lit ((lo.toNat : Nat) : Int)), .int .i64 (.lit ((n.toNat : Nat) : Int)), .int .i64 (.lit ((to.toNat : Nat) : Int))], ?_, by simp [SV.wfL, SV.wf], by simp [SV.wfL, SV.wf], by simp [SV.wf], ?_⟩
   ·simp [SV.denL, SV.den, IE.den, Int.toNat_of_nonneg h2, Int.toNat_of_nonneg h3, Int.toNat_of_nonneg h4]
   ·rw [zZr (lo.toNat, n.toNat, to.toNat) hmem]
    have hq : (0 : Int) < 2 ^ n.toNat := Int.pow_pos (by decide)
    have b0 : 0 <= e.den / 2 ^ lo.toNat % 2 ^ n.toNat := Int.emod_nonneg _ (by omega)
    have b1 : e.den / 2 ^ lo.toNat % 2 ^ n.toNat < 2 ^ n.toNat := Int.emod_lt_of_pos _ hq
    have hle : (2 : Int) ^ n.toNat * 2 ^ to.toNat <= 4294967296 := by rw [<- Int.pow_add, <- zIQ]; exact ipow_le s2
    have ht : (0 : Int) < 2 ^ to.toNat := Int.pow_pos (by decide)
    have b2 : e.den / 2 ^ lo.toNat % 2 ^ n.toNat * 2 ^ to.toNat < 4294967296 := Int.lt_of_lt_of_le (Int.mul_lt_mul_of_pos_right b1 ht) hle
    have b3 : e.den / 2 ^ lo.toNat % 2 ^ n.toNat < 4294967296 := by
     have : (2 : Int) ^ n.toNat <= 4294967296 := by rw [<- zIQ]; exact ipow_le (by omega)
     omega
    refine ⟨by simp only [BE.den, IE.den, zBe, zIR]; simp; omega, fun ν => ?_⟩
    simp only [SV.den, IE.den, zBe, zNV _ _ _ s1]
    rw [z8 b0 b3, zCN .u32 _ to.toNat (by simp [IntKind.bits]; omega), z8 (Int.mul_nonneg b0 (Int.le_of_lt ht)) b2]
  ·simp at hF
 ·simp at hF
theorem zIS (n : Int) : inU32 n = true ↔ 0 <= n /\ n < 4294967296 := by simp [inU32]
def zIb : zBN
 | [.int .u32 e, .int .i64 (.lit lo), .int .i64 (.lit n)] =>
  if (partList.contains (lo.toNat, n.toNat) && decide (0 <= lo) && decide (0 <= n)) = true then some (some (.var (inU32 e.den)), .int .i64 (.var (e.den / 2 ^ lo.toNat % 2 ^ n.toNat))) else none
 | _ => none
  where partList : List (Nat × Nat) := [(0, 7), (12, 20), (20, 12), (20, 6), (20, 5), (7, 5), (25, 7), (8, 4), (25, 6), (7, 1), (31, 1), (21, 10), (20, 1), (12, 8), (15, 5)]
theorem zTK (p : Nat × Nat) (hp : p ∈ zIb.partList) (v : Int) (Q : SV -> Prop) : zH P H0 (fun _ => 40) Tryz.f19 [.int .u32 (.var v), .int .i64 (.lit (p.1 : Nat)), .int .i64 (.lit (p.2 : Nat))] [] (fun v _ => Q v) =
  (BE.den (BE.var (zIR (IE.den (IE.conv .u64 (.var v))))) = true /\ Q (.int .i64 (.conv .i64 (.var (IE.den (.conv .u64 (.var v)) / 2 ^ p.1 % 2 ^ p.2))))) := by
 simp only [zIb.partList, List.mem_cons, List.not_mem_nil, or_false] at hp
 rcases hp with rfl | rfl | rfl | rfl | rfl | rfl | rfl | rfl | rfl | rfl | rfl | rfl | rfl | rfl | rfl <;> kernel_rfl
theorem zI4 : ∀ p ∈ zIb.partList, p.1 + p.2 <= 32 := by decide
theorem zVc : zAr P 19 zIb := by
 refine zBO (zN (un := fun _ => 40) zUD Tryz.func19) ?_
 intro args p v hF hp
 unfold zIb at hF
 split at hF
 ·rename_i e lo n
  split at hF
  ·rename_i hc
   simp only [Bool.and_eq_true, decide_eq_true_eq] at hc
   obtain ⟨⟨h1, h2⟩, h3⟩ := hc
   simp only [Option.some.injEq, Prod.mk.injEq] at hF; obtain ⟨rfl, rfl⟩ := hF
   have hmem : (lo.toNat, n.toNat) ∈ zIb.partList := by simpa using h1
   have s1 := zI4 _ hmem
   simp only at s1
   simp only [zAJ, BE.den, zIS] at hp
   refine ⟨[.int .u32 (.var e.den), .int .i64 (.lit ((lo.toNat : Nat) : Int)), .int .i64 (.lit ((n.toNat : Nat) : Int))], ?_, by simp [SV.wfL, SV.wf], by simp [SV.wfL, SV.wf], by simp [SV.wf], ?_⟩
   ·simp [SV.denL, SV.den, IE.den, Int.toNat_of_nonneg h2, Int.toNat_of_nonneg h3]
   ·rw [zTK (lo.toNat, n.toNat) hmem]
    have hq : (0 : Int) < 2 ^ n.toNat := Int.pow_pos (by decide)
    have b0 : 0 <= e.den / 2 ^ lo.toNat % 2 ^ n.toNat := Int.emod_nonneg _ (by omega)
    have b1 : e.den / 2 ^ lo.toNat % 2 ^ n.toNat < 2 ^ n.toNat := Int.emod_lt_of_pos _ hq
    have b3 : e.den / 2 ^ lo.toNat % 2 ^ n.toNat < 4294967296 := by
     have : (2 : Int) ^ n.toNat <= 4294967296 := by rw [<- zIQ]; exact ipow_le (by omega)
     omega
    refine ⟨by simp only [BE.den, IE.den, zBe, zIR]; simp; omega, fun ν => ?_⟩
    simp only [SV.den, IE.den, zBe, zNV _ _ _ (by omega : lo.toNat + n.toNat <= 64)]
    rw [zE (by omega) (by omega)]
  ·simp at hF
 ·simp at hF
def regE (a : Int) (b : Bool) (Q : SV -> Prop) : Prop :=
 (BE.den (BE.cmp BinOp.geq (IE.var a) (IE.lit 0)) = true -> (BE.den (BE.cmp BinOp.lss (IE.var a) (IE.lit 32)) = true -> Q (SV.bool (if b then BE.lit true else BE.cmp BinOp.eql (IE.var a) (IE.lit 0)))) /\ (BE.den (BE.cmp BinOp.lss (IE.var a) (IE.lit 32)) = false -> Q (SV.bool (BE.lit false)))) /\ (BE.den (BE.cmp BinOp.geq (IE.var a) (IE.lit 0)) = false -> Q (SV.bool (BE.lit false)))
theorem zSr (a : Int) (b : Bool) (Q : SV -> Prop) : zH P H0 (fun _ => 40) Tryz.f28 [.int .i64 (.var a), .bool (.lit b)] [] (fun v _ => Q v) = regE a b Q := by
 cases b <;> kernel_rfl
def zWv : zBN
 | [.int .i64 e, .bool (.lit b)] => some (none, .bool (.var (regB e.den b)))
 | _ => none
theorem zVF : zAr P 28 zWv := by
 refine zBO (zN (un := fun _ => 40) zUD Tryz.func28) ?_
 intro args p v hF hp
 unfold zWv at hF
 split at hF
 ·rename_i e b
  simp only [Option.some.injEq, Prod.mk.injEq] at hF; obtain ⟨rfl, rfl⟩ := hF
  refine ⟨[.int .i64 (.var e.den), .bool (.lit b)], by simp [SV.denL, SV.den, IE.den], by simp [SV.wfL, SV.wf], by simp [SV.wfL, SV.wf], by simp [SV.wf], ?_⟩
  rw [zSr]
  simp only [regE, BE.den, IE.den, zAG, zQ, decide_eq_true_eq, decide_eq_false_iff_not]
  refine ⟨fun h1 => ⟨fun h2 ν => ?_, fun h2 ν => ?_⟩, fun h1 ν => ?_⟩
  ·cases b
   ·simp [SV.den, BE.den, IE.den, za, regB]
   ·simp only [SV.den, BE.den, regB, if_true]; congr 1; simp; omega
  ·simp only [SV.den, BE.den, regB]; congr 1; cases b <;> simp <;> omega
  ·simp only [SV.den, BE.den, regB]; congr 1; cases b <;> simp <;> omega
 ·simp at hF
def cmpE (op : BinOp) (a k : Int) : BE := .cmp op (.var a) (.lit k)
def zHa (a lo hi : Int) (last : BE) (Q : SV -> Prop) : Prop :=
 (BE.den (cmpE .geq a lo) = true -> (BE.den (cmpE .lss a hi) = true -> Q (.bool last)) /\ (BE.den (cmpE .lss a hi) = false -> Q (.bool (.lit false)))) /\ (BE.den (cmpE .geq a lo) = false -> Q (.bool (.lit false)))
def zEs (a lo hi : Int) (Q : SV -> Prop) : Prop :=
 (BE.den (cmpE .geq a lo) = true -> Q (.bool (cmpE .lss a hi))) /\ (BE.den (cmpE .geq a lo) = false -> Q (.bool (.lit false)))
def immQ (a : Int) (Q : SV -> Prop) : Nat -> Prop
 | 1 => zEs a 0 1048576 Q
 | 2 | 5 => zEs a (-2048) 2048 Q
 | 3 => zEs a 0 64 Q
 | 4 => zEs a 0 32 Q
 | 7 => zHa a (-4096) 4096 (.cmp .eql (.rem (.var a) (.lit 2)) (.lit 0)) Q
 | 8 => zHa a (-1048576) 1048576 (.cmp .eql (.rem (.var a) (.lit 2)) (.lit 0)) Q
 | _ => Q (.bool (cmpE .eql a 0))
theorem zSx (f : Nat) (hf : f ∈ [1, 2, 3, 4, 5, 6, 7, 8]) (a : Int) (Q : SV -> Prop) : zH P H0 (fun _ => 40) Tryz.f29 [.int .i64 (.lit (f : Nat)), .int .i64 (.var a)] [] (fun v _ => Q v) = immQ a Q f := by
 simp only [List.mem_cons, List.not_mem_nil, or_false] at hf
 rcases hf with rfl | rfl | rfl | rfl | rfl | rfl | rfl | rfl <;> kernel_rfl
def zWx : zBN
 | [.int .i64 (.lit f), .int .i64 e] => if (decide (f.toNat ∈ [1, 2, 3, 4, 5, 6, 7, 8]) && decide (0 <= f)) = true then some (none, .bool (.var (zC0 f.toNat e.den))) else none
 | _ => none
theorem zCx (a lo hi : Int) (Q : SV -> Prop) (h : ∀ v : SV, (∀ ν, v.den ν = .bool (decide (lo <= a) && decide (a < hi))) -> Q v) : zEs a lo hi Q := by
 simp only [zEs, cmpE, BE.den, IE.den, zAG, decide_eq_true_eq, decide_eq_false_iff_not]
 refine ⟨fun h1 => h _ fun ν => ?_, fun h1 => h _ fun ν => ?_⟩
 ·simp [SV.den, BE.den, IE.den, zQ, h1]
 ·simp [SV.den, BE.den, h1]
theorem zIo (a lo hi : Int) (last : BE) (Q : SV -> Prop) (h : ∀ v : SV, (∀ ν, v.den ν = .bool (decide (lo <= a) && decide (a < hi) && last.den)) -> Q v) : zHa a lo hi last Q := by
 simp only [zHa, cmpE, BE.den, IE.den, zAG, zQ, decide_eq_true_eq, decide_eq_false_iff_not]
 refine ⟨fun h1 => ⟨fun h2 => h _ fun ν => ?_, fun h2 => h _ fun ν => ?_⟩, fun h1 => h _ fun ν => ?_⟩
 ·simp [SV.den, h1, h2]
 ·simp [SV.den, BE.den, h2]
 ·simp [SV.den, BE.den, h1]
theorem zVK : zAr P 29 zWx := by
 refine zBO (zN (un := fun _ => 40) zUD Tryz.func29) ?_
 intro args p v hF hp
 unfold zWx at hF
 split at hF
 ·rename_i f e
  split at hF
  ·rename_i hc
   simp only [Bool.and_eq_true, decide_eq_true_eq] at hc
   obtain ⟨h1, h2⟩ := hc
   simp only [Option.some.injEq, Prod.mk.injEq] at hF; obtain ⟨rfl, rfl⟩ := hF
   refine ⟨[.int .i64 (.lit ((f.toNat : Nat) : Int)), .int .i64 (.var e.den)], by simp [SV.denL, SV.den, IE.den, Int.toNat_of_nonneg h2], by simp [SV.wfL, SV.wf], by simp [SV.wfL, SV.wf], by simp [SV.wf], ?_⟩
   rw [zSx _ h1]
   generalize f.toNat = g at *
   simp only [List.mem_cons, List.not_mem_nil, or_false] at h1
   rcases h1 with rfl | rfl | rfl | rfl | rfl | rfl | rfl | rfl <;> simp only [immQ]
   ·exact zCx _ _ _ _ fun v hv ν => by rw [hv ν]; rfl
   ·exact zCx _ _ _ _ fun v hv ν => by rw [hv ν]; rfl
   ·exact zCx _ _ _ _ fun v hv ν => by rw [hv ν]; rfl
   ·exact zCx _ _ _ _ fun v hv ν => by rw [hv ν]; rfl
   ·exact zCx _ _ _ _ fun v hv ν => by rw [hv ν]; rfl
   ·intro ν; simp [cmpE, SV.den, BE.den, IE.den, za, zC0]
   ·refine zIo _ _ _ _ _ fun v hv ν => ?_
    rw [hv ν]; simp [SV.den, BE.den, IE.den, za, zC0, zXR]
   ·refine zIo _ _ _ _ _ fun v hv ν => ?_
    rw [hv ν]; simp [SV.den, BE.den, IE.den, za, zC0, zXR]
  ·simp at hF
 ·simp at hF
def rrT1 : List (FuncId × Cal) := (37, .pure fRAt) :: (19, .pure zIb) :: (28, .pure zWv) :: (29, .pure zWx) :: rrT
theorem zQS : zO P (zx rrT1) := zG zbU (zG zVc (zG zVF (zG zVK zUJ)))
noncomputable def H1 : FuncId -> Option Cal := inl P (fun _ _ => 40) (zx rrT1) 6
theorem zZ2 : zO P H1 := zAh zQS 6
def zCB : Nat -> List (Nat × Nat × Nat)
 | 1 => [(0, 20, 12)]
 | 2 => [(0, 12, 20)]
 | 3 | 4 => [(0, 6, 20)]
 | 5 => [(0, 5, 7), (5, 7, 25)]
 | 7 => [(1, 4, 8), (5, 6, 25), (11, 1, 7), (12, 1, 31)]
 | 8 => [(1, 10, 21), (11, 1, 20), (12, 8, 12), (20, 1, 31)]
 | _ => []
def layP (d : Int) (p : Nat × Nat × Nat) : IE := .var (d / 2 ^ p.1 % 2 ^ p.2.1 * 2 ^ p.2.2)
def layE (f : Nat) (d : Int) : IE :=
 match zCB f with
 | [] => .lit 0
 | p :: l => l.foldl (fun w p => orU w (layP d p)) (layP d p)
def zOq {α : Type} (b : Bool) : List α -> Prop -> Prop
 | [], R => R
 | _ :: l, R => BE.den (.var b) = true /\ zOq b l R
theorem zIp {α : Type} {b : Bool} (hb : b = true) {R : Prop} (h : R) : ∀ l : List α, zOq b l R
 | [] => h
 | _ :: l => ⟨hb, zIp hb h l⟩
theorem zWK (f : Nat) (hf : f ∈ [1, 2, 3, 4, 5, 6, 7, 8]) (d : Int) (Q : SV -> Prop) : zH P H1 (fun _ => 40) Tryz.f30 [.int .i64 (.lit (f : Nat)), .int .i64 (.var d)] [] (fun v _ => Q v) = zOq (zHG d) (zCB f) (Q (.int .u32 (layE f d))) := by
 simp only [List.mem_cons, List.not_mem_nil, or_false] at hf
 rcases hf with rfl | rfl | rfl | rfl | rfl | rfl | rfl | rfl <;> kernel_rfl
def layW : Nat -> Int -> Int
 | 4, d => d % 64 * 1048576
 | f, d => immW f d
theorem zRS (d : Int) (p : Nat × Nat × Nat) (l : List (Nat × Nat × Nat)) (hp : ∀ q ∈ p :: l, q.2.1 + q.2.2 <= 32)
  (hd : (l.foldl (fun (s : Bool × Nat) q => (s.1 && s.2 &&& ((2 ^ q.2.1 - 1) * 2 ^ q.2.2) == 0, s.2 ||| ((2 ^ q.2.1 - 1) * 2 ^ q.2.2))) (true, (2 ^ p.2.1 - 1) * 2 ^ p.2.2)).1 = true) :
  (l.foldl (fun w p => orU w (layP d p)) (layP d p)).den = l.foldl (fun x q => x + d / 2 ^ q.1 % 2 ^ q.2.1 * 2 ^ q.2.2) (d / 2 ^ p.1 % 2 ^ p.2.1 * 2 ^ p.2.2) := by
 have hlt : ∀ q ∈ p :: l, (2 ^ q.2.1 - 1) * 2 ^ q.2.2 < 2 ^ 32 := fun q hq => by
  have e1 : (2 ^ q.2.1 - 1) * 2 ^ q.2.2 < 2 ^ q.2.1 * 2 ^ q.2.2 := Nat.mul_lt_mul_of_pos_right (by have := Nat.two_pow_pos q.2.1; omega) (Nat.two_pow_pos _)
  rw [<- Nat.pow_add] at e1
  exact Nat.lt_of_lt_of_le e1 (Nat.pow_le_pow_right (by decide) (hp q hq))
 have h := zRm (l.map fun q => ((2 ^ q.2.1 - 1) * 2 ^ q.2.2, d / 2 ^ q.1 % 2 ^ q.2.1 * 2 ^ q.2.2, layP d q)) (layP d p) _ _ rfl (zAA d p.1 p.2.1 p.2.2) (hlt p (List.mem_cons_self ..)) (fun x hx => by
  obtain ⟨q, hq, rfl⟩ := List.mem_map.1 hx
  exact ⟨rfl, zAA d q.1 q.2.1 q.2.2, hlt q (List.mem_cons_of_mem _ hq)⟩) (by rw [List.foldl_map]; exact hd)
 rw [List.foldl_map, List.foldl_map] at h
 exact h
theorem zWL (f : Nat) (hf : f ∈ [1, 2, 3, 4, 5, 6, 7, 8]) (d : Int) : (layE f d).den = layW f d := by
 simp only [List.mem_cons, List.not_mem_nil, or_false] at hf
 rcases hf with rfl | rfl | rfl | rfl | rfl | rfl | rfl | rfl
 ·simp [layE, zCB, layP, IE.den, layW, immW]
 ·simp [layE, zCB, layP, IE.den, layW, immW]
 ·simp [layE, zCB, layP, IE.den, layW, immW]
 ·simp [layE, zCB, layP, IE.den, layW, immW]
 ·have := zRS d (0, 5, 7) [(5, 7, 25)] (by decide) (by decide)
  simpa [layE, zCB, layW, immW] using this
 ·simp [layE, zCB, layP, IE.den, layW, immW]
 ·have := zRS d (1, 4, 8) [(5, 6, 25), (11, 1, 7), (12, 1, 31)] (by decide) (by decide)
  simpa [layE, zCB, layW, immW] using this
 ·have := zRS d (1, 10, 21) [(11, 1, 20), (12, 8, 12), (20, 1, 31)] (by decide) (by decide)
  simpa [layE, zCB, layW, immW] using this
def zWw : zBN
 | [.int .i64 (.lit f), .int .i64 e] => if (decide (f.toNat ∈ [1, 2, 3, 4, 5, 6, 7, 8]) && decide (0 <= f)) = true then some (some (.var (zHG e.den)), .int .u32 (.var (layW f.toNat e.den))) else none
 | _ => none
theorem zYk : zAr P 30 zWw := by
 refine zBO (zN (un := fun _ => 40) zZ2 Tryz.func30) ?_
 intro args p v hF hp
 unfold zWw at hF
 split at hF
 ·rename_i f e
  split at hF
  ·rename_i hc
   simp only [Bool.and_eq_true, decide_eq_true_eq] at hc
   obtain ⟨h1, h2⟩ := hc
   simp only [Option.some.injEq, Prod.mk.injEq] at hF; obtain ⟨rfl, rfl⟩ := hF
   refine ⟨[.int .i64 (.lit ((f.toNat : Nat) : Int)), .int .i64 (.var e.den)], by simp [SV.denL, SV.den, IE.den, Int.toNat_of_nonneg h2], by simp [SV.wfL, SV.wf], by simp [SV.wfL, SV.wf], by simp [SV.wf], ?_⟩
   rw [zWK _ h1]
   refine zIp hp (fun ν => ?_) _
   simp only [SV.den, zWL _ h1, IE.den]
  ·simp at hF
 ·simp at hF
theorem zYL (x y : Int) : zAy .or .i64 x y = IntKind.i64.wrap (zAy .or .u64 x y) := by
 simp only [zAy]
 rw [zBe, Int.emod_eq_of_lt]
 ·rfl
 ·omega
 ·have := (BitVec.ofInt 64 x ||| BitVec.ofInt 64 y).isLt
  have e : (2 : Nat) ^ 64 = 18446744073709551616 := rfl
  simp only [IntKind.bits] at *
  omega
def zBS : Nat -> List (Nat × Nat × Nat)
 | 1 => [(12, 20, 0)]
 | 2 => [(20, 12, 0)]
 | 3 => [(20, 6, 0)]
 | 4 => [(20, 5, 0)]
 | 5 => [(7, 5, 0), (25, 7, 5)]
 | 7 => [(8, 4, 1), (25, 6, 5), (7, 1, 11), (31, 1, 12)]
 | 8 => [(21, 10, 1), (20, 1, 11), (12, 8, 12), (31, 1, 20)]
 | _ => []
def orI (a b : IE) : IE := .bits .or .i64 a b
def zFn (w : Int) (p : Nat × Nat × Nat) : IE :=
 match p.2.2 with
 | 0 => .var (w / 2 ^ p.1 % 2 ^ p.2.1)
 | k + 1 => .shl .i64 (.var (w / 2 ^ p.1 % 2 ^ p.2.1)) (.lit ((k + 1 : Nat) : Int))
def zHA (f : Nat) (w : Int) : IE :=
 match zBS f with
 | [] => .lit 0
 | p :: l => l.foldl (fun v p => orI v (zFn w p)) (zFn w p)
def zXc : Nat -> Nat
 | 2 | 5 => 12
 | 7 => 13
 | 8 => 21
 | _ => 0
def zXS (f : Nat) (w : Int) (Q : SV -> Prop) : Prop :=
 match zXc f with
 | 0 => Q (.int .i64 (zHA f w))
 | n + 1 => BE.den (.var (zIR (IE.den (.conv .u64 (zHA f w))))) = true /\ Q (.int .i64 (.var (sgnN (n + 1) (IE.den (.conv .u64 (zHA f w))))))
theorem zSe (f : Nat) (hf : f ∈ [1, 2, 3, 4, 5, 6, 7, 8]) (w : Int) (Q : SV -> Prop) : zH P H1 (fun _ => 40) Tryz.f20 [.int .i64 (.lit (f : Nat)), .int .u32 (.var w)] [] (fun v _ => Q v) = zOq (inU32 w) (zBS f) (zXS f w Q) := by
 simp only [List.mem_cons, List.not_mem_nil, or_false] at hf
 rcases hf with rfl | rfl | rfl | rfl | rfl | rfl | rfl | rfl <;> kernel_rfl
theorem zFm (w : Int) (p : Nat × Nat × Nat) (h : p.2.1 + p.2.2 <= 32) : (zFn w p).den = w / 2 ^ p.1 % 2 ^ p.2.1 * 2 ^ p.2.2 := by
 obtain ⟨lo, n, s⟩ := p
 simp only at h
 unfold zFn
 cases s with
 | zero => simp [IE.den]
 | succ s =>
  have hq : (0 : Int) < 2 ^ n := Int.pow_pos (by decide)
  have b0 : 0 <= w / 2 ^ lo % 2 ^ n := Int.emod_nonneg _ (by omega)
  have b1 : w / 2 ^ lo % 2 ^ n < 2 ^ n := Int.emod_lt_of_pos _ hq
  have ht : (0 : Int) < 2 ^ (s + 1) := Int.pow_pos (by decide)
  have hle : (2 : Int) ^ n * 2 ^ (s + 1) <= 4294967296 := by rw [<- Int.pow_add, <- zIQ]; exact ipow_le h
  have b2 : w / 2 ^ lo % 2 ^ n * 2 ^ (s + 1) < 4294967296 := Int.lt_of_lt_of_le (Int.mul_lt_mul_of_pos_right b1 ht) hle
  have b3 : 0 <= w / 2 ^ lo % 2 ^ n * 2 ^ (s + 1) := Int.mul_nonneg b0 (Int.le_of_lt ht)
  simp only [IE.den]
  rw [zCN .i64 _ (s + 1) (by simp [IntKind.bits]; omega), zE (by omega) (by omega)]
theorem zHX (w : Int) : ∀ (l : List (Nat × Nat × Nat)) (e : IE) (m : Nat) (x : Int), e.den = x -> Sub m x -> m < 2 ^ 32 -> (∀ q ∈ l, q.2.1 + q.2.2 <= 32) ->
  (l.foldl (fun (s : Bool × Nat) q => (s.1 && s.2 &&& ((2 ^ q.2.1 - 1) * 2 ^ q.2.2) == 0, s.2 ||| ((2 ^ q.2.1 - 1) * 2 ^ q.2.2))) (true, m)).1 = true ->
  (l.foldl (fun v p => orI v (zFn w p)) e).den = l.foldl (fun x q => x + w / 2 ^ q.1 % 2 ^ q.2.1 * 2 ^ q.2.2) x /\ ∃ m', m' < 2 ^ 32 /\ Sub m' (l.foldl (fun x q => x + w / 2 ^ q.1 % 2 ^ q.2.1 * 2 ^ q.2.2) x)
 | [], e, m, x, he, hs, hm, _, _ => ⟨he, m, hm, hs⟩
 | q :: l, e, m, x, he, hs, hm, hl, hd => by
  simp only [List.foldl_cons, Bool.true_and] at hd ⊢
  have hq := hl q (List.mem_cons_self ..)
  have hlt : (2 ^ q.2.1 - 1) * 2 ^ q.2.2 < 2 ^ 32 := by
   have e1 : (2 ^ q.2.1 - 1) * 2 ^ q.2.2 < 2 ^ q.2.1 * 2 ^ q.2.2 := Nat.mul_lt_mul_of_pos_right (by have := Nat.two_pow_pos q.2.1; omega) (Nat.two_pow_pos _)
   rw [<- Nat.pow_add] at e1
   exact Nat.lt_of_lt_of_le e1 (Nat.pow_le_pow_right (by decide) hq)
  have hz : m &&& ((2 ^ q.2.1 - 1) * 2 ^ q.2.2) = 0 := by
   by_cases hz : m &&& ((2 ^ q.2.1 - 1) * 2 ^ q.2.2) = 0
   ·exact hz
   ·exfalso
    have : (m &&& ((2 ^ q.2.1 - 1) * 2 ^ q.2.2) == 0) = false := by simpa using hz
    rw [this] at hd
    have key : ∀ (l : List (Nat × Nat × Nat)) (k : Nat), (l.foldl (fun (s : Bool × Nat) q => (s.1 && s.2 &&& ((2 ^ q.2.1 - 1) * 2 ^ q.2.2) == 0, s.2 ||| ((2 ^ q.2.1 - 1) * 2 ^ q.2.2))) (false, k)).1 = false := by
     intro l
     induction l with
     | nil => intro k; rfl
     | cons a r ih => intro k; simpa using ih _
    rw [key] at hd
    cases hd
  have hsq := zAA w q.1 q.2.1 q.2.2
  obtain ⟨o1, o2⟩ := or64 hs hsq hz (by omega) (by omega)
  have hm2 := Nat.or_lt_two_pow hm hlt
  have e1 : (orI e (zFn w q)).den = x + w / 2 ^ q.1 % 2 ^ q.2.1 * 2 ^ q.2.2 := by
   simp only [orI, IE.den, he, zFm w q hq]
   rw [zYL, o1]
   have := o2.lt
   exact zE (by omega) (by omega)
  refine zHX w l _ _ _ e1 o2 hm2 (fun p hp => hl p (List.mem_cons_of_mem _ hp)) ?_
  have : (m &&& ((2 ^ q.2.1 - 1) * 2 ^ q.2.2) == 0) = true := by simpa using hz
  rw [this] at hd
  exact hd
theorem zSf (f : Nat) (hf : f ∈ [1, 2, 3, 4, 5, 6, 7, 8]) (w : Int) : (zHA f w).den = immV f w := by
 have one : ∀ p : Nat × Nat × Nat, p.2.1 + p.2.2 <= 32 -> (2 ^ p.2.1 - 1) * 2 ^ p.2.2 < 2 ^ 32 := fun q hq => by
  have e1 : (2 ^ q.2.1 - 1) * 2 ^ q.2.2 < 2 ^ q.2.1 * 2 ^ q.2.2 := Nat.mul_lt_mul_of_pos_right (by have := Nat.two_pow_pos q.2.1; omega) (Nat.two_pow_pos _)
  rw [<- Nat.pow_add] at e1
  exact Nat.lt_of_lt_of_le e1 (Nat.pow_le_pow_right (by decide) hq)
 simp only [List.mem_cons, List.not_mem_nil, or_false] at hf
 rcases hf with rfl | rfl | rfl | rfl | rfl | rfl | rfl | rfl
 ·simp [zHA, zBS, zFn, IE.den, immV]
 ·simp [zHA, zBS, zFn, IE.den, immV]
 ·simp [zHA, zBS, zFn, IE.den, immV]
 ·simp [zHA, zBS, zFn, IE.den, immV]
 ·have := (zHX w [(25, 7, 5)] (zFn w (7, 5, 0)) _ _ (zFm w _ (by decide)) (zAA w 7 5 0) (one (7, 5, 0) (by decide)) (by decide) (by decide)).1
  simpa [zHA, zBS, immV] using this
 ·simp [zHA, zBS, zFn, IE.den, immV]
 ·have := (zHX w [(25, 6, 5), (7, 1, 11), (31, 1, 12)] (zFn w (8, 4, 1)) _ _ (zFm w _ (by decide)) (zAA w 8 4 1) (one (8, 4, 1) (by decide)) (by decide) (by decide)).1
  simpa [zHA, zBS, immV] using this
 ·have := (zHX w [(20, 1, 11), (12, 8, 12), (31, 1, 20)] (zFn w (21, 10, 1)) _ _ (zFm w _ (by decide)) (zAA w 21 10 1) (one (21, 10, 1) (by decide)) (by decide) (by decide)).1
  simpa [zHA, zBS, immV] using this
def zRq : zBN
 | [.int .i64 (.lit f), .int .u32 e] => if (decide (f.toNat ∈ [1, 2, 3, 4, 5, 6, 7, 8]) && decide (0 <= f)) = true then some (some (.var (inU32 e.den)), .int .i64 (.var (immD f.toNat e.den))) else none
 | _ => none
theorem zU3 : zAr P 20 zRq := by
 refine zBO (zN (un := fun _ => 40) zZ2 Tryz.func20) ?_
 intro args p v hF hp
 unfold zRq at hF
 split at hF
 ·rename_i f e
  split at hF
  ·rename_i hc
   simp only [Bool.and_eq_true, decide_eq_true_eq] at hc
   obtain ⟨h1, h2⟩ := hc
   simp only [Option.some.injEq, Prod.mk.injEq] at hF; obtain ⟨rfl, rfl⟩ := hF
   have hw : 0 <= e.den /\ e.den < 4294967296 := (zIS _).1 hp
   refine ⟨[.int .i64 (.lit ((f.toNat : Nat) : Int)), .int .u32 (.var e.den)], by simp [SV.denL, SV.den, IE.den, Int.toNat_of_nonneg h2], by simp [SV.wfL, SV.wf], by simp [SV.wfL, SV.wf], by simp [SV.wf], ?_⟩
   rw [zSe _ h1]
   refine zIp hp ?_ _
   have hd := zSf f.toNat h1 e.den
   generalize f.toNat = g at *
   generalize e.den = w at *
   simp only [List.mem_cons, List.not_mem_nil, or_false] at h1
   have sg : ∀ (n : Nat) (x : Int), 1 <= n -> 0 <= x -> x < 2 ^ n -> n <= 21 -> BE.den (.var (zIR (IntKind.u64.wrap x))) = true /\ sgnN n (IntKind.u64.wrap x) = if x < 2 ^ (n - 1) then x else x - 2 ^ n := by
    intro n x hn h0 hx hn'
    have hle : (2 : Int) ^ n <= 4294967296 := by rw [<- zIQ]; exact ipow_le (by omega)
    rw [zAE h0 (by omega)]
    have e2 : (2 : Int) ^ n = 2 ^ (n - 1) * 2 := by rw [<- Int.pow_succ]; congr 1; omega
    have hp : (0 : Int) < 2 ^ (n - 1) := Int.pow_pos (by decide)
    refine ⟨by simp only [BE.den, zIR]; simp; omega, ?_⟩
    simp only [sgnN]
    rw [Int.emod_eq_of_lt h0 hx]
    by_cases hlt : x < 2 ^ (n - 1)
    ·rw [if_pos hlt, Int.ediv_eq_zero_of_lt h0 hlt]; simp
    ·rw [if_neg hlt]
     have : x / 2 ^ (n - 1) = 1 := by
      have h3 : x = (x - 2 ^ (n - 1)) + 2 ^ (n - 1) * 1 := by omega
      rw [h3, Int.add_mul_ediv_left _ _ (by omega), Int.ediv_eq_zero_of_lt (by omega) (by omega)]; rfl
     rw [this]; simp
   rcases h1 with rfl | rfl | rfl | rfl | rfl | rfl | rfl | rfl <;> simp only [zXS, zXc]
   ·intro ν; simp only [SV.den, hd, IE.den, immD]
   ·have := sg 12 (immV 2 w) (by decide) (by simp only [immV]; omega) (by simp only [immV]; omega) (by decide)
    refine ⟨by simp only [IE.den, hd]; exact this.1, fun ν => ?_⟩
    simp only [SV.den, IE.den, hd, this.2, immD]; rfl
   ·intro ν; simp only [SV.den, hd, IE.den, immD]
   ·intro ν; simp only [SV.den, hd, IE.den, immD]
   ·have := sg 12 (immV 5 w) (by decide) (by simp only [immV]; omega) (by simp only [immV]; omega) (by decide)
    refine ⟨by simp only [IE.den, hd]; exact this.1, fun ν => ?_⟩
    simp only [SV.den, IE.den, hd, this.2, immD]; rfl
   ·intro ν; simp only [SV.den, hd, IE.den, immD]
   ·have := sg 13 (immV 7 w) (by decide) (by simp only [immV]; omega) (by simp only [immV]; omega) (by decide)
    refine ⟨by simp only [IE.den, hd]; exact this.1, fun ν => ?_⟩
    simp only [SV.den, IE.den, hd, this.2, immD]; rfl
   ·have := sg 21 (immV 8 w) (by decide) (by simp only [immV]; omega) (by simp only [immV]; omega) (by decide)
    refine ⟨by simp only [IE.den, hd]; exact this.1, fun ν => ?_⟩
    simp only [SV.den, IE.den, hd, this.2, immD]; rfl
  ·simp at hF
 ·simp at hF
def rrT2 : List (FuncId × Cal) := (30, .pure zWw) :: (20, .pure zRq) :: rrT1
theorem zQR : zO P (zx rrT2) := zG zYk (zG zU3 zQS)
noncomputable def H2 : FuncId -> Option Cal := inl P (fun _ _ => 40) (zx rrT2) 6
theorem zbl : zO P H2 := zAh zQR 6
end Go.Proofs.YtajcmjjgnbaahaaGreat.Rv
